import Derived.Test.YtkjmhfbjdeidjaaDoorJ2
import Derived.Test.YtkjmhfbjdeidjaaDoorProg
import Derived.Test.YtkjmhfbjdeidjaaDoorRows
import Derived.Test.YtkjmhfbjdeidjaaDoorTie
import Derived.Test.YtkjmhfbjdeidjaaDoorCards
import Derived.ProofKit
import Derived.LaidMore
import Derived.OpenShut
import Derived.Stop.Joined
import Derived.Shelf.Spec.TrailingZeros
set_option linter.unusedSimpArgs false
/- What is said less of a value, at any depth. -/
namespace Go.Proofs.YtkjmhfbjdeidjaaDoor.Am
set_option linter.unusedVariables false
open Go Go.RowKit

/-- y says no more than x -/
inductive LeV : AV → AV → Prop
  | rfl {x : AV} : LeV x x
  | bad {x : AV} : LeV x .bad
  | nil {x : AV} {k : Nat} (h : isNilSlice x = true) : LeV x (.d (.sl k []))
  | full {k : Nat} {xs : List (List Dv)} : LeV (.full k xs) (.d (.sl k xs))
  | agg {xs ys : List AV} (hl : xs.length = ys.length) (h : ∀ (i : Nat) (x y : AV), xs[i]? = some x → ys[i]? = some y → LeV x y) : LeV (.agg xs) (.agg ys)
  | tup {xs ys : List AV} (hl : xs.length = ys.length) (h : ∀ (i : Nat) (x y : AV), xs[i]? = some x → ys[i]? = some y → LeV x y) : LeV (.tup xs) (.tup ys)

inductive LeVs : List AV → List AV → Prop
  | nil : LeVs [] []
  | cons {x y : AV} {xs ys : List AV} (h : LeV x y) (hs : LeVs xs ys) : LeVs (x :: xs) (y :: ys)
theorem LeVs.len {xs ys : List AV} (h : LeVs xs ys) : xs.length = ys.length := by
  induction h with
  | nil => rfl
  | cons _ _ ih => simp [ih]
theorem LeVs.at {xs ys : List AV} (h : LeVs xs ys) : ∀ (i : Nat) (x y : AV), xs[i]? = some x → ys[i]? = some y → LeV x y := by
  induction h with
  | nil => intro i x y h; simp at h
  | cons h _ ih =>
    intro i x y h1 h2
    cases i with
    | zero => simp at h1 h2; subst h1; subst h2; exact h
    | succ i => exact ih i x y (by simpa using h1) (by simpa using h2)
theorem LeVs.refl : ∀ xs : List AV, LeVs xs xs
  | [] => .nil
  | _ :: xs => .cons .rfl (LeVs.refl xs)
theorem LeV.aggs {xs ys : List AV} (h : LeVs xs ys) : LeV (.agg xs) (.agg ys) := .agg h.len h.at
theorem LeV.tups {xs ys : List AV} (h : LeVs xs ys) : LeV (.tup xs) (.tup ys) := .tup h.len h.at

theorem LeV.rv {S : Pr} {w : World} {m : List MB} {yv : Option Nat} {x y : AV} (h : LeV x y) : ∀ {v : Value}, RV S w m yv x v → RV S w m yv y v := by
  induction h with
  | rfl => exact fun h => h
  | bad => exact fun _ => .bad
  | nil h => exact fun hr => (LeA.nilSl h).rv hr
  | full => exact fun hr => (LeX.full _ _).rv hr
  | agg hl h ih =>
    intro v hr
    cases hr with
    | agg hl' hr =>
      refine .agg (hl.symm.trans hl') fun i c v h1 h2 => ?_
      have hi := (List.getElem?_eq_some_iff.1 h1).1
      exact ih i _ c (List.getElem?_eq_getElem (by omega)) h1 (hr i _ v (List.getElem?_eq_getElem (by omega)) h2)
  | tup hl h ih =>
    intro v hr
    cases hr with
    | tup hl' hr =>
      refine .tup (hl.symm.trans hl') fun i c v h1 h2 => ?_
      have hi := (List.getElem?_eq_some_iff.1 h1).1
      exact ih i _ c (List.getElem?_eq_getElem (by omega)) h1 (hr i _ v (List.getElem?_eq_getElem (by omega)) h2)

section
variable {P : Program}
theorem PCall.leV {f : Nat} {args : List AV} {x y : AV} (h : LeV x y) (hv : x.view = x) (hp : PCall P f args x) : PCall P f args y := by
  refine ⟨hp.1, fun S w vs hl hvs hlt hgl => CallsIn.mono (hp.2 S w vs hl hvs hlt hgl) ?_⟩
  rintro e w' ⟨v, S', h1, h2, h3, h4, h5⟩
  rw [hv] at h5
  exact ⟨v, S', h1, h2, h3, h4, (h.rv h5).view⟩
theorem PCall.leArgsV {f : Nat} {args args' : List AV} {x : AV} (h : LeVs args args') (hp : PCall P f args' x) : PCall P f args x := by
  refine ⟨hp.1, fun S w vs hl hvs hlt hgl => hp.2 S w vs (h.len ▸ hl) (fun i y v h1 h2 => ?_) hlt hgl⟩
  have hi := (List.getElem?_eq_some_iff.1 h1).1
  have hi' : i < args.length := h.len ▸ hi
  exact (h.at i _ y (List.getElem?_eq_getElem hi') h1).rv (hvs i _ v (List.getElem?_eq_getElem hi') h2)
/-- a function that turns nothing of its callers'; less is said of its result -/
theorem PCall.ofWV {f : Nat} {fn : Func} {c : Code} {args : List AV} {x : AV} (hf : P.funcs[f]? = some fn) (hb : fn.body = some c) (hn : (fn.name == "runtime.NumGoroutine") = false) (hargs : args.map AV.view = args)
    (hW : ∀ (Ev : Env P) (b : Ev.β), W Ev c ⟨startTm fn args, [], b⟩ (FnPost P fn fun y hp _ => ∃ z, SealR hp y z ∧ LeV z x)) : PCall P f args x := by
  refine ⟨enter_ok hf hb hn, fun S w vs hl hvs hlt hgl => ?_⟩
  have hrel : Rel S (fun b _ => b < w.heap.size) none w [] (args.zip vs ++ ([] ++ cellPairs [] [])) [] [] := by
    have h0 : Rel S (fun b _ => b < w.heap.size) none w [] [] [] [] := ⟨fun b i h => h.elim (hlt b i) id, by simp, List.Pairwise.nil, by simp, by simp, by simp, rfl, rfl, by simp, hgl⟩
    have := h0.pushAll (args.zip vs) (fun p hp => by
      obtain ⟨j, hj⟩ := List.mem_iff_getElem?.1 hp
      rw [List.getElem?_zip_eq_some] at hj
      refine ⟨hvs j p.1 p.2 hj.1 hj.2, ?_⟩
      have hp1 : p.1.view = p.1 := by
        have h1 : (args.map AV.view)[j]? = some p.1.view := by simp [hj.1]
        rw [hargs, hj.1] at h1; exact (Option.some.inj h1).symm
      obtain ⟨p1, p2⟩ := p
      simp only at hp1
      rw [← hp1]; exact ownB_view _ _)
    simpa [cellPairs] using this
  refine calls_of_W (Ev := Env.none P none) (V := fun _ _ => False) (b := (() : Unit)) hf hb hl (hW (Env.none P _) (() : Unit)) hrel (fun _ _ h => h.elim) trivial (Nat.zero_le _) ?_
  intro y S' X' V' w' m' hv' hp' v b' hyz htr0 hxs hm hr _ hyv
  obtain ⟨z, hy, hz⟩ := hyz
  have htr : Tr (fun b i => ¬ b < w.heap.size) (fun _ => False) S w S' w' := htr0.mono (fun b i h => h.resolve_right id) (fun _ h => h)
  refine ⟨v, withBlocks S' m', rfl, below_of_tr htr (fun b i hb hz => hz hb) (fun _ h => h), fun b i hs => .inl (htr.up b i hs), fun b i hs => ?_, (hz.rv (sealR_sound (B := []) (T := withBlocks S' m') (by simpa using hr) (fun _ _ h => .inl h) hy (fun g _ p hp i hi => .inr ⟨g, p, hp, rfl, hi⟩) hyv)).view⟩
  rcases hs with hs | ⟨g, p, hg, rfl, hi⟩
  · rcases htr.new b i hs with h1 | h1 | h1
    · exact .inl h1
    · exact .inr ⟨Nat.le_of_not_lt h1, htr.lt b i hs⟩
    · exact .inr ⟨h1, htr.lt b i hs⟩
  · have hr' : Rel S' X' none w' m' (([] : List (AV × Value)) ++ cellPairs hp' hv') hp' hv' := hr
    obtain ⟨blk, us, cur, e, g1, g2, g3, g4, g5, g6, g7, g8, g9, g10, g11, g12⟩ := hr'.block hg
    have hlt' : p.b < w'.heap.size := (Array.getElem?_eq_some_iff.1 g8).1
    cases hfr : blk.fro with
    | true =>
      have hs := g12 hfr i hi
      rcases htr.new _ _ hs with h1 | h1 | h1
      · exact .inl h1
      · exact .inr ⟨Nat.le_of_not_lt h1, hlt'⟩
      · exact .inr ⟨h1, hlt'⟩
    | false =>
      refine .inr ⟨Nat.le_of_not_lt fun hb => ?_, hlt'⟩
      exact (g11 hfr i).2 (hxs _ _ hb)

/-- a function's contract, of whose result less is said than its normal form tells -/
theorem PCall.ofFnV {f n : Nat} {fn : Func} {args : List AV} {x : AV} {T : List (Nat × (List AV → (AV → Prop) → Prop))} {U : List (Nat × (List AV → List Blk → (AV → List Blk → Prop) → Prop))} {u : Bool} (wl : ∀ β : Type, WLT β) (hm : P.follows .mixedOrders = true)
    (hT : CallsOk P T) (hS : SCallsOk P U) (hwl : ∀ (Ev : Env P) c tm hp b K, wl Ev.β c tm hp b K → W Ev c ⟨tm, hp, b⟩ (fun e s => K e s.tm s.hp s.b)) (hf : P.funcs[f]? = some fn) (hn : (fn.name == "runtime.NumGoroutine") = false) (hargs : args.map AV.view = args)
    (h : ∀ (Ev : Env P) (b : Ev.β), wpFn P ⟨T, U, wl Ev.β, Ev.Y, u⟩ n fn args b (fun y _ => LeV y x)) : PCall P f args x := by
  cases hb : fn.body with
  | some c =>
    refine PCall.ofWV hf hb hn hargs fun Ev b => ?_
    have h1 := h Ev b
    unfold wpFn at h1
    rw [hb] at h1
    refine wpc_sound hm (CX.Ok.ofWl hT hS (hwl Ev)) h1 fun e tm hp b hK => ?_
    obtain ⟨g1, ys, g2, z, g3, g4⟩ := fnK_sound hK
    exact ⟨g1, ys, g2, z, g3, g4⟩
  | none =>
    have := h (Env.none P none) ()
    unfold wpFn at this
    rw [hb] at this
    exact this.elim
end
end Go.Proofs.YtkjmhfbjdeidjaaDoor.Am

namespace Go.Proofs.YtkjmhfbjdeidjaaDoor.Am
set_option linter.unusedVariables false
open Go Go.RowKit Go.Proofs

theorem mixed : Tryd.prog.follows .mixedOrders = true := by kernel_rfl


/-! ### data -/
def bytesR (b : List Int) : List (List Dv) := b.map fun x => [u8 x]
def rowA (m : Int) (b : List Int) : AV := .agg [.d (i64 m), .d (.sl 1 (bytesR b))]
def eqA (m : Int) (p : List Int) : AV := .agg (.d (i64 m) :: cells16 p)
def pad (b : List Int) : List Int := (b ++ List.replicate 16 0).take 16
def fine (m : Int) (b : List Int) : Bool := decide (m ≥ 1) && (decide (m < 65536) && ((b.length : Int) == 16))
def xor8 (a b : Int) : Int := IntKind.wrap IntKind.u8 ↑((BitVec.ofInt 8 a ^^^ BitVec.ofInt 8 b).toNat)
def xorL (p q : List Int) : List Int := (List.range 16).map fun i => xor8 (nth p i) (nth q i)

/-- the first string that is looked into -/
def strOfOps : List Oper → Option ByteArray
  | [] => none
  | o :: l => match o.op with
    | .index _ (.const (.string s)) _ => some s
    | _ => strOfOps l
def strOf : Code → Option ByteArray
  | .region _ ops _ => strOfOps ops.toList
  | .seq x y => match strOf x with
    | some s => some s
    | none => strOf y
  | _ => none
/-- the table of bits.Len8 -/
noncomputable def strTab : ByteArray := ((Tryd.f65.body.bind strOf)).getD ByteArray.empty

section
variable {β : Type} (wl : WLT β) (y : YieldT β) (b : β) (R : AV → β → Prop)
theorem f28_nf (m : Int) (xs : List (List Dv)) : wpFn Tryd.prog ⟨[], [], wl, y, true⟩ 100 Tryd.f45 [.agg [.d (i64 m), .d (.sl 1 xs)]] b R = (
  ∃ x0 x1 x2 x3 x4 x5 x6 x7 x8 x9 x10 x11 x12 x13 x14 x15,
  List.map (fun r16 => AV.d (List.headD r16 (Dv.s (Value.tuple { toList := [] })))) (List.take (16 : Nat) xs) ++
        List.drop (min (16 : Nat) (List.length xs))
          [AV.d (u8 (0 : Int)), AV.d (u8 (0 : Int)), AV.d (u8 (0 : Int)), AV.d (u8 (0 : Int)), AV.d (u8 (0 : Int)), AV.d (u8 (0 : Int)), AV.d (u8 (0 : Int)),
            AV.d (u8 (0 : Int)), AV.d (u8 (0 : Int)), AV.d (u8 (0 : Int)), AV.d (u8 (0 : Int)), AV.d (u8 (0 : Int)), AV.d (u8 (0 : Int)), AV.d (u8 (0 : Int)),
            AV.d (u8 (0 : Int)), AV.d (u8 (0 : Int))] =
      [AV.d (u8 x0), AV.d (u8 x1), AV.d (u8 x2), AV.d (u8 x3), AV.d (u8 x4), AV.d (u8 x5), AV.d (u8 x6), AV.d (u8 x7), AV.d (u8 x8), AV.d (u8 x9),
        AV.d (u8 x10), AV.d (u8 x11), AV.d (u8 x12), AV.d (u8 x13), AV.d (u8 x14), AV.d (u8 x15)] ∧
    BIf (decide (m ≥ (1 : Int)))
      (BIf (decide (m < (65536 : Int)))
        (R
          (AV.tup
            [AV.agg
                [AV.d (i64 m), AV.d (u8 x0), AV.d (u8 x1), AV.d (u8 x2), AV.d (u8 x3), AV.d (u8 x4), AV.d (u8 x5), AV.d (u8 x6), AV.d (u8 x7), AV.d (u8 x8),
                  AV.d (u8 x9), AV.d (u8 x10), AV.d (u8 x11), AV.d (u8 x12), AV.d (u8 x13), AV.d (u8 x14), AV.d (u8 x15)],
              AV.d (bo (↑(List.length xs) == (16 : Int)))])
          b)
        (R
          (AV.tup
            [AV.agg
                [AV.d (i64 m), AV.d (u8 x0), AV.d (u8 x1), AV.d (u8 x2), AV.d (u8 x3), AV.d (u8 x4), AV.d (u8 x5), AV.d (u8 x6), AV.d (u8 x7), AV.d (u8 x8),
                  AV.d (u8 x9), AV.d (u8 x10), AV.d (u8 x11), AV.d (u8 x12), AV.d (u8 x13), AV.d (u8 x14), AV.d (u8 x15)],
              AV.d (bo false)])
          b))
      (R
        (AV.tup
          [AV.agg
              [AV.d (i64 m), AV.d (u8 x0), AV.d (u8 x1), AV.d (u8 x2), AV.d (u8 x3), AV.d (u8 x4), AV.d (u8 x5), AV.d (u8 x6), AV.d (u8 x7), AV.d (u8 x8),
                AV.d (u8 x9), AV.d (u8 x10), AV.d (u8 x11), AV.d (u8 x12), AV.d (u8 x13), AV.d (u8 x14), AV.d (u8 x15)],
            AV.d (bo false)])
        b)) := by kernel_rfl
theorem f33_nf (p q : List Int) : wpFn Tryd.prog ⟨[], [], wl, y, true⟩ 100 Tryd.f51 [.agg (cells16 p), .agg (cells16 q)] b R = (
  R
  (AV.agg
    [AV.d (u8 (IntKind.wrap IntKind.u8 ↑(BitVec.toNat (BitVec.ofInt (8 : Nat) (nth p (0 : Nat)) ^^^ BitVec.ofInt (8 : Nat) (nth q (0 : Nat)))))),
      AV.d (u8 (IntKind.wrap IntKind.u8 ↑(BitVec.toNat (BitVec.ofInt (8 : Nat) (nth p (1 : Nat)) ^^^ BitVec.ofInt (8 : Nat) (nth q (1 : Nat)))))),
      AV.d (u8 (IntKind.wrap IntKind.u8 ↑(BitVec.toNat (BitVec.ofInt (8 : Nat) (nth p (2 : Nat)) ^^^ BitVec.ofInt (8 : Nat) (nth q (2 : Nat)))))),
      AV.d (u8 (IntKind.wrap IntKind.u8 ↑(BitVec.toNat (BitVec.ofInt (8 : Nat) (nth p (3 : Nat)) ^^^ BitVec.ofInt (8 : Nat) (nth q (3 : Nat)))))),
      AV.d (u8 (IntKind.wrap IntKind.u8 ↑(BitVec.toNat (BitVec.ofInt (8 : Nat) (nth p (4 : Nat)) ^^^ BitVec.ofInt (8 : Nat) (nth q (4 : Nat)))))),
      AV.d (u8 (IntKind.wrap IntKind.u8 ↑(BitVec.toNat (BitVec.ofInt (8 : Nat) (nth p (5 : Nat)) ^^^ BitVec.ofInt (8 : Nat) (nth q (5 : Nat)))))),
      AV.d (u8 (IntKind.wrap IntKind.u8 ↑(BitVec.toNat (BitVec.ofInt (8 : Nat) (nth p (6 : Nat)) ^^^ BitVec.ofInt (8 : Nat) (nth q (6 : Nat)))))),
      AV.d (u8 (IntKind.wrap IntKind.u8 ↑(BitVec.toNat (BitVec.ofInt (8 : Nat) (nth p (7 : Nat)) ^^^ BitVec.ofInt (8 : Nat) (nth q (7 : Nat)))))),
      AV.d (u8 (IntKind.wrap IntKind.u8 ↑(BitVec.toNat (BitVec.ofInt (8 : Nat) (nth p (8 : Nat)) ^^^ BitVec.ofInt (8 : Nat) (nth q (8 : Nat)))))),
      AV.d (u8 (IntKind.wrap IntKind.u8 ↑(BitVec.toNat (BitVec.ofInt (8 : Nat) (nth p (9 : Nat)) ^^^ BitVec.ofInt (8 : Nat) (nth q (9 : Nat)))))),
      AV.d (u8 (IntKind.wrap IntKind.u8 ↑(BitVec.toNat (BitVec.ofInt (8 : Nat) (nth p (10 : Nat)) ^^^ BitVec.ofInt (8 : Nat) (nth q (10 : Nat)))))),
      AV.d (u8 (IntKind.wrap IntKind.u8 ↑(BitVec.toNat (BitVec.ofInt (8 : Nat) (nth p (11 : Nat)) ^^^ BitVec.ofInt (8 : Nat) (nth q (11 : Nat)))))),
      AV.d (u8 (IntKind.wrap IntKind.u8 ↑(BitVec.toNat (BitVec.ofInt (8 : Nat) (nth p (12 : Nat)) ^^^ BitVec.ofInt (8 : Nat) (nth q (12 : Nat)))))),
      AV.d (u8 (IntKind.wrap IntKind.u8 ↑(BitVec.toNat (BitVec.ofInt (8 : Nat) (nth p (13 : Nat)) ^^^ BitVec.ofInt (8 : Nat) (nth q (13 : Nat)))))),
      AV.d (u8 (IntKind.wrap IntKind.u8 ↑(BitVec.toNat (BitVec.ofInt (8 : Nat) (nth p (14 : Nat)) ^^^ BitVec.ofInt (8 : Nat) (nth q (14 : Nat)))))),
      AV.d (u8 (IntKind.wrap IntKind.u8 ↑(BitVec.toNat (BitVec.ofInt (8 : Nat) (nth p (15 : Nat)) ^^^ BitVec.ofInt (8 : Nat) (nth q (15 : Nat))))))])
  b) := by kernel_rfl
theorem f33_nf' (p q : List Int) : wpFn Tryd.prog ⟨[], [], wl, y, true⟩ 100 Tryd.f51 [.agg (cells16 p), .agg (cells16 q)] b R = R (.agg (cells16 (xorL p q))) b := by kernel_rfl
theorem f31_nf (m : Int) (p : List Int) : wpFn Tryd.prog ⟨[], [], wl, y, true⟩ 100 Tryd.f49 [eqA m p] b R = R (.agg [.d (i64 m), .d (.sl 1 (bytesR ((List.range 16).map (nth p))))]) b := by kernel_rfl
theorem f30_nf (xs : List (List Dv)) : wpFn Tryd.prog ⟨[], [], wl, y, true⟩ 100 Tryd.f48 [.d (.sl 2 xs)] b R = R (.fn (.func 61) [] [.rptr [.sl 2 xs]]) b := by kernel_rfl
theorem f41_nf (x : Int) : wpFn Tryd.prog ⟨[], [], wl, y, true⟩ 100 Tryd.f65 [.d (u64 x)] b R = (
  BIf (decide (x ≥ (4294967296 : Int)))
  (BIf (decide (Int.fdiv x (4294967296 : Int) ≥ (65536 : Int)))
    (BIf (decide (Int.fdiv (Int.fdiv x (4294967296 : Int)) (65536 : Int) ≥ (256 : Int)))
      (BIf (decide ((0 : Int) ≤ IntKind.wrap IntKind.u8 (Int.fdiv (Int.fdiv (Int.fdiv x (4294967296 : Int)) (65536 : Int)) (256 : Int))))
        (∃ c0,
          strTab[Int.toNat (IntKind.wrap IntKind.u8 (Int.fdiv (Int.fdiv (Int.fdiv x (4294967296 : Int)) (65536 : Int)) (256 : Int)))]? = some c0 ∧
            R (AV.d (i64 (IntKind.wrap IntKind.i64 ((56 : Int) + IntKind.wrap IntKind.i64 ↑(UInt8.toNat c0))))) b)
        False)
      (BIf (decide ((0 : Int) ≤ IntKind.wrap IntKind.u8 (Int.fdiv (Int.fdiv x (4294967296 : Int)) (65536 : Int))))
        (∃ c7,
          strTab[Int.toNat (IntKind.wrap IntKind.u8 (Int.fdiv (Int.fdiv x (4294967296 : Int)) (65536 : Int)))]? = some c7 ∧
            R (AV.d (i64 (IntKind.wrap IntKind.i64 ((48 : Int) + IntKind.wrap IntKind.i64 ↑(UInt8.toNat c7))))) b)
        False))
    (BIf (decide (Int.fdiv x (4294967296 : Int) ≥ (256 : Int)))
      (BIf (decide ((0 : Int) ≤ IntKind.wrap IntKind.u8 (Int.fdiv (Int.fdiv x (4294967296 : Int)) (256 : Int))))
        (∃ c14,
          strTab[Int.toNat (IntKind.wrap IntKind.u8 (Int.fdiv (Int.fdiv x (4294967296 : Int)) (256 : Int)))]? = some c14 ∧
            R (AV.d (i64 (IntKind.wrap IntKind.i64 ((40 : Int) + IntKind.wrap IntKind.i64 ↑(UInt8.toNat c14))))) b)
        False)
      (BIf (decide ((0 : Int) ≤ IntKind.wrap IntKind.u8 (Int.fdiv x (4294967296 : Int))))
        (∃ c21,
          strTab[Int.toNat (IntKind.wrap IntKind.u8 (Int.fdiv x (4294967296 : Int)))]? = some c21 ∧
            R (AV.d (i64 (IntKind.wrap IntKind.i64 ((32 : Int) + IntKind.wrap IntKind.i64 ↑(UInt8.toNat c21))))) b)
        False)))
  (BIf (decide (x ≥ (65536 : Int)))
    (BIf (decide (Int.fdiv x (65536 : Int) ≥ (256 : Int)))
      (BIf (decide ((0 : Int) ≤ IntKind.wrap IntKind.u8 (Int.fdiv (Int.fdiv x (65536 : Int)) (256 : Int))))
        (∃ c28,
          strTab[Int.toNat (IntKind.wrap IntKind.u8 (Int.fdiv (Int.fdiv x (65536 : Int)) (256 : Int)))]? = some c28 ∧
            R (AV.d (i64 (IntKind.wrap IntKind.i64 ((24 : Int) + IntKind.wrap IntKind.i64 ↑(UInt8.toNat c28))))) b)
        False)
      (BIf (decide ((0 : Int) ≤ IntKind.wrap IntKind.u8 (Int.fdiv x (65536 : Int))))
        (∃ c35,
          strTab[Int.toNat (IntKind.wrap IntKind.u8 (Int.fdiv x (65536 : Int)))]? = some c35 ∧
            R (AV.d (i64 (IntKind.wrap IntKind.i64 ((16 : Int) + IntKind.wrap IntKind.i64 ↑(UInt8.toNat c35))))) b)
        False))
    (BIf (decide (x ≥ (256 : Int)))
      (BIf (decide ((0 : Int) ≤ IntKind.wrap IntKind.u8 (Int.fdiv x (256 : Int))))
        (∃ c42,
          strTab[Int.toNat (IntKind.wrap IntKind.u8 (Int.fdiv x (256 : Int)))]? = some c42 ∧
            R (AV.d (i64 (IntKind.wrap IntKind.i64 ((8 : Int) + IntKind.wrap IntKind.i64 ↑(UInt8.toNat c42))))) b)
        False)
      (BIf (decide ((0 : Int) ≤ IntKind.wrap IntKind.u8 x))
        (∃ c49,
          strTab[Int.toNat (IntKind.wrap IntKind.u8 x)]? = some c49 ∧
            R (AV.d (i64 (IntKind.wrap IntKind.i64 ((0 : Int) + IntKind.wrap IntKind.i64 ↑(UInt8.toNat c49))))) b)
        False)))) := by kernel_rfl
end
end Go.Proofs.YtkjmhfbjdeidjaaDoor.Am

namespace Go.Proofs.YtkjmhfbjdeidjaaDoor.Am
set_option linter.unusedVariables false
open Go Go.RowKit Go.Proofs

/-! ### numbers of bits -/
def nbits (n : Nat) : Nat := if n = 0 then 0 else n.log2 + 1
def lead (m : Int) : Int := (2 ^ m.toNat.log2 : Nat)

theorem strTab_all : (List.range 256).map (fun i => strTab[i]?) = (List.range 256).map (fun i => some (UInt8.ofNat (nbits i))) := by kernel_rfl
theorem strTab_at {i : Nat} (h : i < 256) : strTab[i]? = some (UInt8.ofNat (nbits i)) := by
  have := congrArg (fun l => l[i]?) strTab_all
  simpa [h] using this

theorem log2_eq {n k : Nat} (h1 : 2 ^ k ≤ n) (h2 : n < 2 ^ (k + 1)) : n.log2 = k := by
  have h0 : n ≠ 0 := by have := Nat.two_pow_pos k; omega
  have a := (Nat.le_log2 h0).2 h1
  have b := (Nat.log2_lt h0).2 h2
  omega

theorem log2_bounds {n : Nat} (h : n ≠ 0) : 2 ^ n.log2 ≤ n ∧ n < 2 ^ (n.log2 + 1) := ⟨(Nat.le_log2 h).1 (Nat.le_refl _), (Nat.log2_lt h).1 (Nat.lt_succ_self _)⟩

theorem nbits_small {n : Nat} (h : n < 256) : nbits n ≤ 8 := by
  unfold nbits
  split
  · omega
  · rename_i h0
    have : n.log2 < 8 := (Nat.log2_lt h0).2 h
    omega

theorem nbits_div {n : Nat} (h : 256 ≤ n) : nbits n = 8 + nbits (n / 256) := by
  have h0 : n / 256 ≠ 0 := by omega
  obtain ⟨h1, h2⟩ := log2_bounds h0
  have : n.log2 = (n / 256).log2 + 8 := by
    refine log2_eq ?_ ?_
    · rw [Nat.pow_add]; omega
    · rw [show (n / 256).log2 + 8 + 1 = ((n / 256).log2 + 1) + 8 by omega, Nat.pow_add]; omega
  unfold nbits
  rw [if_neg (by omega), if_neg h0]; omega

theorem wrap_u8 {x : Int} (h0 : 0 ≤ x) (h1 : x < 256) : IntKind.wrap .u8 x = x := by
  simp only [IntKind.wrap]; simp [IntKind.signed, IntKind.bits]; omega
theorem wrap_i64 {x : Int} (h0 : -9223372036854775808 ≤ x) (h1 : x < 9223372036854775808) : IntKind.wrap .i64 x = x := by
  simp only [IntKind.wrap]; simp [IntKind.signed, IntKind.bits]; omega
theorem wrap_u64 {x : Int} (h0 : 0 ≤ x) (h1 : x < 18446744073709551616) : IntKind.wrap .u64 x = x := by
  simp only [IntKind.wrap]; simp [IntKind.signed, IntKind.bits]; omega

theorem pc41 (x : Int) (h0 : 0 ≤ x) (h1 : x < 65536) : PCall Tryd.prog 65 [.d (u64 x)] (.d (i64 (nbits x.toNat))) := by
  refine PCall.ofFn (n := 100) (u := true) mixed CallsOk.nil SCallsOk.nil Tryd.func65 (by rfl) (by rfl) fun Ev b => ?_
  rw [f41_nf]
  refine BIf.f (by simp; omega) (BIf.f (by simp; omega) (BIf.of (fun h => ?_) fun h => ?_))
  · have h : 256 ≤ x := by simpa using h
    have e : Int.fdiv x 256 = x / 256 := by rw [Int.fdiv_eq_ediv_of_nonneg _ (by omega)]
    rw [e, wrap_u8 (by omega) (by omega)]
    refine BIf.t (by simp; omega) ⟨_, strTab_at (by omega), ?_⟩
    have e2 : (x / 256).toNat = x.toNat / 256 := by omega
    have h3 := nbits_small (n := x.toNat / 256) (by omega)
    have h4 : nbits x.toNat = 8 + nbits (x.toNat / 256) := nbits_div (by omega)
    rw [e2]
    have e3 : (((UInt8.ofNat (nbits (x.toNat / 256))).toNat : Nat) : Int) = nbits (x.toNat / 256) := by
      simp; omega
    rw [e3, wrap_i64 (x := (nbits (x.toNat / 256) : Int)) (by omega) (by omega), wrap_i64 (by omega) (by omega), h4]
    simp
  · have h : x < 256 := by simpa using h
    rw [wrap_u8 (by omega) (by omega)]
    refine BIf.t (by simp; omega) ⟨_, strTab_at (by omega), ?_⟩
    have h3 := nbits_small (n := x.toNat) (by omega)
    have e3 : (((UInt8.ofNat (nbits x.toNat)).toNat : Nat) : Int) = nbits x.toNat := by
      simp; omega
    rw [e3, wrap_i64 (x := (nbits x.toNat : Int)) (by omega) (by omega), wrap_i64 (by omega) (by omega)]
    simp

/-! ### calls' contracts, as what must be shown at a call -/
def c41 (args : List AV) (K : AV → Prop) : Prop := ∃ x : Int, args = [.d (u64 x)] ∧ (0 ≤ x ∧ x < 65536) ∧ K (.d (i64 (nbits x.toNat)))
theorem c41_ok : ∀ args K, c41 args K → ∃ x, PCall Tryd.prog 65 args x ∧ K x := by
  rintro _ K ⟨x, rfl, ⟨h0, h1⟩, h⟩; exact ⟨_, pc41 x h0 h1, h⟩

theorem f39_nf {β : Type} (wl : WLT β) (y : YieldT β) (b : β) (R : AV → β → Prop) (x : Int) : wpFn Tryd.prog ⟨[(65, c41)], [], wl, y, true⟩ 100 Tryd.f62 [.d (u64 x)] b R =
    (∃ x' : Int, [AV.d (u64 x)] = [AV.d (u64 x')] ∧ (0 ≤ x' ∧ x' < 65536) ∧ R (.d (i64 (nbits x'.toNat))) b) := by kernel_rfl
theorem pc39 (x : Int) (h0 : 0 ≤ x) (h1 : x < 65536) : PCall Tryd.prog 62 [.d (u64 x)] (.d (i64 (nbits x.toNat))) := by
  refine PCall.ofFn (n := 100) (u := true) mixed (CallsOk.cons c41_ok CallsOk.nil) SCallsOk.nil Tryd.func62 (by rfl) (by rfl) fun Ev b => ?_
  rw [f39_nf]
  exact ⟨x, rfl, ⟨h0, h1⟩, rfl⟩
def c39 (args : List AV) (K : AV → Prop) : Prop := ∃ x : Int, args = [.d (u64 x)] ∧ (0 ≤ x ∧ x < 65536) ∧ K (.d (i64 (nbits x.toNat)))
theorem c39_ok : ∀ args K, c39 args K → ∃ x, PCall Tryd.prog 62 args x ∧ K x := by
  rintro _ K ⟨x, rfl, ⟨h0, h1⟩, h⟩; exact ⟨_, pc39 x h0 h1, h⟩

/-- leading -/
theorem f32_nf {β : Type} (wl : WLT β) (y : YieldT β) (b : β) (R : AV → β → Prop) (m : Int) (p : List Int) : wpFn Tryd.prog ⟨[(62, c39)], [], wl, y, true⟩ 100 Tryd.f50 [eqA m p] b R =
    (∃ x : Int, [AV.d (u64 (IntKind.wrap .u64 m))] = [AV.d (u64 x)] ∧ (0 ≤ x ∧ x < 65536) ∧ BIf (decide ((nbits x.toNat : Int) < 0)) False (R (.d (i64 (Int.fdiv (IntKind.wrap .i64 (1 * 2 ^ min (Int.toNat (nbits x.toNat)) 64)) 2))) b)) := by kernel_rfl
theorem pc32 (m : Int) (p : List Int) (h0 : 1 ≤ m) (h1 : m < 65536) : PCall Tryd.prog 50 [eqA m p] (.d (i64 (lead m))) := by
  refine PCall.ofFn (n := 100) (u := true) mixed (CallsOk.cons c39_ok CallsOk.nil) SCallsOk.nil Tryd.func50 (by rfl) (by rfl) fun Ev b => ?_
  rw [f32_nf]
  rw [wrap_u64 (by omega) (by omega)]
  refine ⟨m, rfl, ⟨by omega, h1⟩, BIf.f (by simp) ?_⟩
  have hn : m.toNat ≠ 0 := by omega
  have hl : m.toNat.log2 < 16 := (Nat.log2_lt hn).2 (by omega)
  have e : nbits m.toNat = m.toNat.log2 + 1 := by unfold nbits; rw [if_neg hn]
  have e2 : min (Int.toNat (nbits m.toNat)) 64 = m.toNat.log2 + 1 := by rw [e]; omega
  rw [e2]
  have h2 : 2 ^ m.toNat.log2 ≤ m.toNat := (log2_bounds hn).1
  have h3 : (1 : Int) * 2 ^ (m.toNat.log2 + 1) = ((2 ^ m.toNat.log2 : Nat) : Int) * 2 := by
    rw [Int.one_mul, Int.pow_succ]; simp
  rw [h3]
  unfold lead
  generalize 2 ^ m.toNat.log2 = z at h2
  rw [wrap_i64 (by omega) (by omega), Int.fdiv_eq_ediv_of_nonneg _ (by omega)]
  congr 4; omega
def c32 (args : List AV) (K : AV → Prop) : Prop := ∃ (m : Int) (p : List Int), args = [eqA m p] ∧ (1 ≤ m ∧ m < 65536) ∧ K (.d (i64 (lead m)))
theorem c32_ok : ∀ args K, c32 args K → ∃ x, PCall Tryd.prog 50 args x ∧ K x := by
  rintro _ K ⟨m, p, rfl, ⟨h0, h1⟩, h⟩; exact ⟨_, pc32 m p h0 h1, h⟩

/-- plus -/
theorem pc33 (p q : List Int) : PCall Tryd.prog 51 [.agg (cells16 p), .agg (cells16 q)] (.agg (cells16 (xorL p q))) := by
  refine PCall.ofFn (n := 100) (u := true) mixed CallsOk.nil SCallsOk.nil Tryd.func51 (by rfl) (by rfl) fun Ev b => ?_
  rw [f33_nf']
def c33 (args : List AV) (K : AV → Prop) : Prop := ∃ (p q r : List Int), args = [.agg (cells16 p), .agg (cells16 q)] ∧ r = xorL p q ∧ K (.agg (cells16 r))
theorem c33_ok : ∀ args K, c33 args K → ∃ x, PCall Tryd.prog 51 args x ∧ K x := by
  rintro _ K ⟨p, q, _, rfl, rfl, h⟩; exact ⟨_, pc33 p q, h⟩

/-- row -/
theorem pc31 (m : Int) (p : List Int) : PCall Tryd.prog 49 [eqA m p] (rowA m ((List.range 16).map (nth p))) := by
  refine PCall.ofFn (n := 100) (u := true) mixed CallsOk.nil SCallsOk.nil Tryd.func49 (by rfl) (by rfl) fun Ev b => ?_
  rw [f31_nf]; rfl
def b16 (p : List Int) : List Int := (List.range 16).map (nth p)
def c31 (args : List AV) (K : AV → Prop) : Prop := ∃ (m : Int) (p : List Int) (q : List (List Dv)), args = [eqA m p] ∧ q = bytesR (b16 p) ∧ K (.agg [.d (i64 m), .d (.sl 1 q)])
theorem c31_ok : ∀ args K, c31 args K → ∃ x, PCall Tryd.prog 49 args x ∧ K x := by
  rintro _ K ⟨m, p, _, rfl, rfl, h⟩; exact ⟨_, pc31 m p, h⟩

/-- formed -/
theorem pad_cells (b : List Int) (z : Dv) : (List.map (fun r => AV.d (List.headD r z)) ((bytesR b).take 16)) ++ (cells16 []).drop (min 16 (bytesR b).length) = cells16 (pad b) := by
  have hz : cells16 [] = (List.replicate 16 (0 : Int)).map fun x => AV.d (u8 x) := rfl
  have hc : cells16 (pad b) = (pad b).map fun x => AV.d (u8 x) := by
    have hl : (pad b).length = 16 := by simp [pad]
    unfold cells16
    apply List.ext_getElem
    · simp [hl]
    · intro i h1 h2
      simp only [List.getElem_map, List.getElem_range, nth]
      rw [List.getD_eq_getElem?_getD, List.getElem?_eq_getElem (by simpa using h2)]; rfl
  rw [hz, hc]
  unfold pad bytesR
  rw [List.take_append, ← List.map_take, List.map_map, ← List.map_drop, List.map_append]
  congr 1
  congr 1
  rw [List.length_map, List.drop_replicate, List.take_replicate]
  congr 1; omega

theorem pc28 (m : Int) (b : List Int) : PCall Tryd.prog 45 [rowA m b] (.tup [eqA m (pad b), .d (bo (fine m b))]) := by
  refine PCall.ofFn (n := 100) (u := true) mixed CallsOk.nil SCallsOk.nil Tryd.func45 (by rfl) (by rfl) fun Ev bb => ?_
  rw [rowA, f28_nf]
  refine ⟨_, _, _, _, _, _, _, _, _, _, _, _, _, _, _, _, pad_cells b _, BIf.of (fun h1 => BIf.of (fun h2 => ?_) fun h2 => ?_) fun h1 => ?_⟩
  · have : fine m b = ((b.length : Int) == 16) := by simp [fine, h1, h2]
    rw [this]; simp [bytesR]; rfl
  · have : fine m b = false := by simp [fine, h2]
    rw [this]; rfl
  · have : fine m b = false := by simp [fine, h1]
    rw [this]; rfl
def c28 (args : List AV) (K : AV → Prop) : Prop := ∃ (m : Int) (b : List Int), args = [rowA m b] ∧ K (.tup [eqA m (pad b), .d (bo (fine m b))])
theorem c28_ok : ∀ args K, c28 args K → ∃ x, PCall Tryd.prog 45 args x ∧ K x := by
  rintro _ K ⟨m, p, rfl, h⟩; exact ⟨_, pc28 m p, h⟩

end Go.Proofs.YtkjmhfbjdeidjaaDoor.Am

namespace Go.Proofs.YtkjmhfbjdeidjaaDoor.Am
set_option linter.unusedVariables false
open Go Go.RowKit Go.Proofs

abbrev Row := Int × List Int
def rowD (r : Row) : List Dv := [i64 r.1, .sl 1 (bytesR r.2)]
def rowsR (l : List Row) : List (List Dv) := l.map rowD
def item (r : Row) : List AV := [eqA r.1 (pad r.2), .d (bo (fine r.1 r.2))]

noncomputable def lp38 : Code := inLoop (inBlock (restOf (code Tryd.f61)))
theorem f38_shape : code Tryd.f61 = .seq (firstOf (code Tryd.f61)) (.block 0 (.loop lp38)) := by kernel_rfl
def tm38 (xs : List (List Dv)) (n k : Int) : List AV := [.yl, .rptr [.sl 2 xs], .bad, .bad, .bad, .d (.sl 2 xs), .d (i64 n), .d (i64 k)] ++ List.replicate 11 .bad
section
variable {β : Type} (wl : WLT β) (y : YieldT β) (b : β) (R : AV → β → Prop) (K : Exit → List AV → List Blk → β → Prop)
theorem f38_0 (xs : List (List Dv)) : wpc Tryd.prog ⟨[(45, c28)], [], wl, y, true⟩ 100 (firstOf (code Tryd.f61)) (startTm Tryd.f61 [.yl, .rptr [.sl 2 xs]]) [] b K = K .normal (tm38 xs xs.length 0) [] b := by kernel_rfl
theorem f38_round (xs : List (List Dv)) (n k : Int) : wpc Tryd.prog ⟨[(45, c28)], [], wl, y, true⟩ 100 lp38 (tm38 xs n k) [] b (maskK 0 [0, 1, 5, 6, 7] K) =
    BIf (decide (k < n)) (BIf (true && decide (0 ≤ k))
      (∃ x0 xs1, xs[k.toNat]? = some [i64 x0, .sl 1 xs1] ∧ ∃ m b5, [AV.agg [.d (i64 x0), .d (.sl 1 xs1)]] = [rowA m b5] ∧
        y b [eqA m (pad b5), .d (bo (fine m b5))] fun c b' => BIf (!c) (K .ret (tm38 xs n k) [] b') (K .normal (tm38 xs n (IntKind.wrap .i64 (k + 1))) [] b')) False)
    (K (.exit 0) (tm38 xs n k) [] b) := by kernel_rfl
end

theorem wr38 {Ev : Env Tryd.prog} {QQ : Ev.β → Prop} (l : List Row) (hl : l.length ≤ 9223372036854775807) : ∀ (rest : List Row) (k : Nat) (b : Ev.β), l.drop k = rest → YList Ev.Y (rest.map item) b QQ →
    WR Ev lp38 (rest.length + 1) ⟨tm38 (rowsR l) l.length k, [], b⟩ (fun e s => (e = .exit 0 ∨ e = .ret) ∧ QQ s.b)
  | [], k, b, hd, hY => by
    refine WR.ofMask [0, 1, 5, 6, 7] mixed (CX.Ok.of (u := true) (CallsOk.cons c28_ok CallsOk.nil) SCallsOk.nil) (k := 100) ?_
    show wpc _ _ _ _ _ _ _ (maskK 0 _ _)
    rw [f38_round]
    have : l.length ≤ k := List.drop_eq_nil_iff.1 hd
    exact BIf.f (by simpa using this) ⟨.inl rfl, hY⟩
  | r :: rest, k, b, hd, hY => by
    refine WR.ofMask [0, 1, 5, 6, 7] mixed (CX.Ok.of (u := true) (CallsOk.cons c28_ok CallsOk.nil) SCallsOk.nil) (k := 100) ?_
    show wpc _ _ _ _ _ _ _ (maskK 0 _ _)
    rw [f38_round]
    have hk : k < l.length := by
      rcases Nat.lt_or_ge k l.length with h | h
      · exact h
      · rw [List.drop_eq_nil_of_le h] at hd; cases hd
    have hr : l[k]? = some r := by
      have := congrArg (fun x => x[0]?) hd
      simpa using this
    have hd' : l.drop (k + 1) = rest := by
      have := congrArg List.tail hd
      simpa using this
    refine BIf.t (by simpa using hk) (BIf.t (by simp) ⟨r.1, bytesR r.2, by simp [rowsR, hr, rowD], r.1, r.2, rfl, ?_⟩)
    simp only [List.map_cons, YList] at hY
    refine Ev.Ymono hY fun c b' h => ?_
    cases c with
    | false => exact ⟨.inr rfl, h⟩
    | true =>
      have e : IntKind.wrap .i64 ((k : Int) + 1) = ((k + 1 : Nat) : Int) := by rw [wrap_i64 (by omega) (by omega)]; simp
      show WR Ev lp38 _ _ _
      rw [e]
      exact wr38 l hl rest (k + 1) b' hd' h

/-- the iterator of equations -/
theorem ic38 (l : List Row) (hl : l.length ≤ 9223372036854775807) : ICall Tryd.prog 61 [.yl, .rptr [.sl 2 (rowsR l)]] (fun Y b Q => YList Y (l.map item) b Q) := by
  refine ICall.ofW (c := code Tryd.f61) Tryd.func61 (by rfl) (by rfl) fun Ev b Q hQ => ?_
  rw [f38_shape]
  refine W.seq (wpc_sound mixed (CX.Ok.of (u := true) (CallsOk.cons c28_ok CallsOk.nil) SCallsOk.nil) (n := 100) ((f38_0 ..).symm ▸ ?_) (fun e tm hp b h => h))
  rw [show (((rowsR l).length : Nat) : Int) = (l.length : Int) by simp [rowsR]]
  refine W.block (W.mono (W.rounds (wr38 l hl l 0 b rfl hQ)) fun e s h => ?_)
  obtain ⟨rfl | rfl, h⟩ := h
  · exact ⟨.inr rfl, [], rfl, h⟩
  · exact ⟨.inl rfl, [], rfl, h⟩

theorem pc30 (xs : List (List Dv)) : PCall Tryd.prog 48 [.d (.sl 2 xs)] (.fn (.func 61) [] [.rptr [.sl 2 xs]]) := by
  refine PCall.ofFn (n := 100) (u := true) mixed CallsOk.nil SCallsOk.nil Tryd.func48 (by rfl) (by rfl) fun Ev bb => ?_
  rw [f30_nf]
def c30 (args : List AV) (K : AV → Prop) : Prop := ∃ xs, args = [.d (.sl 2 xs)] ∧ K (.fn (.func 61) [] [.rptr [.sl 2 xs]])
theorem c30_ok : ∀ args K, c30 args K → ∃ x, PCall Tryd.prog 48 args x ∧ K x := by
  rintro _ K ⟨xs, rfl, h⟩; exact ⟨_, pc30 xs, h⟩

end Go.Proofs.YtkjmhfbjdeidjaaDoor.Am

namespace Go.Proofs.YtkjmhfbjdeidjaaDoor.Am
set_option linter.unusedVariables false
open Go Go.RowKit Go.Proofs

def and64 (a b : Int) : Int := IntKind.wrap .i64 ((BitVec.ofInt 64 a &&& BitVec.ofInt 64 b).toNat : Nat)
def or64 (a b : Int) : Int := IntKind.wrap .i64 ((BitVec.ofInt 64 a ||| BitVec.ofInt 64 b).toNat : Nat)
def xor64 (a b : Int) : Int := IntKind.wrap .i64 ((BitVec.ofInt 64 a ^^^ BitVec.ofInt 64 b).toNat : Nat)
def bq (m : Int) (p : List Int) : Blk := ⟨.d (i64 m) :: cells16 p, false, false, 0⟩
abbrev okMask (r : Row) : Prop := 1 ≤ r.1 ∧ r.1 < 65536

/-! ### reduce -/
def red (x : Row) (r : Row) : Row := if and64 x.1 (lead r.1) != 0 then (xor64 x.1 r.1, xorL x.2 (pad r.2)) else x

noncomputable def rf29 : Code := sub [1, 0, 1, 2] (code Tryd.f47)
theorem rf29_shape : rf29 = .rangeFunc (.tmp 7) #[8, 9] (assignOf rf29) (bodyOf rf29) := by kernel_rfl
def tm29 (xs : List (List Dv)) : List AV := [.bad, .bad, .bad, .ptr 0 0, .ptr 1 0, .bad, .bad, .fn (.func 61) [] [.rptr [.sl 2 xs]]] ++ List.replicate 20 .bad
abbrev T29 : List (Nat × (List AV → (AV → Prop) → Prop)) := [(48, c30), (50, c32), (51, c33)]
theorem T29_ok : CallsOk Tryd.prog T29 := CallsOk.cons c30_ok (CallsOk.cons c32_ok (CallsOk.cons c33_ok CallsOk.nil))

/-- what the range comes to -/
def wl29 {β : Type} : WLT β := fun c tm hp b K => ∃ (l : List Row) (x : Row), c = rf29 ∧ maskTm [3, 4, 7] 0 tm = tm29 (rowsR l) ∧ hp = [bq x.1 x.2, bq 0 []] ∧ ((∀ r ∈ l, okMask r) ∧ l.length ≤ 9223372036854775807) ∧
  K .normal (tm29 (rowsR l)) [bq (l.foldl red x).1 (l.foldl red x).2, bq 0 []] b

section
variable {β : Type} (wl : WLT β) (y : YieldT β) (b : β) (R : AV → β → Prop) (K : Exit → List AV → List Blk → β → Prop) (Kh : Exit → List Blk → β → Prop)
theorem f29_round (xs : List (List Dv)) (m m0 : Int) (p p0 : List Int) (f : Bool) : wpcY Tryd.prog ⟨T29, [], wl, y, false⟩ 100 #[8, 9] (assignOf rf29) (bodyOf rf29) (tm29 xs) [eqA m p, .d (bo f)] [bq m0 p0, bq 0 []] b (takeK 2 Kh) =
    (∃ m1 p1, [eqA m p] = [eqA m1 p1] ∧ (1 ≤ m1 ∧ m1 < 65536) ∧ BIf (and64 m0 (lead m1) != 0)
      (∃ p2 q3 r4, [AV.agg (cells16 p0), .agg (cells16 p)] = [.agg (cells16 p2), .agg (cells16 q3)] ∧ r4 = xorL p2 q3 ∧ Kh .normal [bq (xor64 m0 m) r4, bq 0 []] b) (Kh .normal [bq m0 p0, bq 0 []] b)) := by kernel_rfl
theorem f29_nf (xs : List (List Dv)) (m : Int) (p : List Int) : wpFn Tryd.prog ⟨T29, [], wl29, y, false⟩ 100 Tryd.f47 [.d (.sl 2 xs), eqA m p] b R =
    (∃ xs0, [AV.d (.sl 2 xs)] = [AV.d (.sl 2 xs0)] ∧ ∃ (l : List Row) (x : Row), rf29 = rf29 ∧ tm29 xs0 = tm29 (rowsR l) ∧ [bq m p, bq 0 []] = [bq x.1 x.2, bq 0 []] ∧ ((∀ r ∈ l, okMask r) ∧ l.length ≤ 9223372036854775807) ∧
      R (eqA (l.foldl red x).1 (l.foldl red x).2) b) := by kernel_rfl
end

theorem range29 {Ev : Env Tryd.prog} {b : Ev.β} {Q : Exit → St Ev.β → Prop} (xs : List (List Dv)) : ∀ (l : List Row) (x : Row), (∀ r ∈ l, okMask r) → Q .normal ⟨tm29 xs, [bq (l.foldl red x).1 (l.foldl red x).2, bq 0 []], b⟩ →
    YList (YBody Ev (tm29 xs) #[8, 9] (assignOf rf29) (bodyOf rf29) 2) (l.map item) ([bq x.1 x.2, bq 0 []], b, none) (rangeQ (tm29 xs) Q)
  | [], x, _, h => h
  | r :: l, x, hok, h => by
    refine YList.step (X := ⟨T29, [], wlW Ev, Ev.Y, false⟩) (k := 100) mixed (CX.Ok.of T29_ok SCallsOk.nil) rfl ?_
    show wpcY _ _ _ _ _ _ _ [eqA _ _, .d (bo _)] [bq _ _, bq 0 []] b (takeK 2 _)
    rw [f29_round]
    refine ⟨r.1, pad r.2, rfl, hok r (List.mem_cons_self ..), BIf.of (fun hc => ⟨x.2, pad r.2, _, rfl, rfl, ?_⟩) fun hc => ?_⟩
    · refine range29 xs l (xor64 x.1 r.1, xorL x.2 (pad r.2)) (fun r' hr => hok r' (List.mem_cons_of_mem _ hr)) ?_
      have : red x r = (xor64 x.1 r.1, xorL x.2 (pad r.2)) := by unfold red; rw [if_pos hc]
      rw [List.foldl_cons, this] at h; exact h
    · refine range29 xs l x (fun r' hr => hok r' (List.mem_cons_of_mem _ hr)) ?_
      have : red x r = x := by unfold red; rw [if_neg (by simp [hc])]
      rw [List.foldl_cons, this] at h; exact h

theorem wl29_ok {Ev : Env Tryd.prog} (c : Code) (tm : List AV) (hp : List Blk) (b : Ev.β) (K : Exit → List AV → List Blk → Ev.β → Prop) (h : wl29 c tm hp b K) : W Ev c ⟨tm, hp, b⟩ (fun e s => K e s.tm s.hp s.b) := by
  obtain ⟨l, x, rfl, htm, rfl, hpre, hK⟩ := h
  refine W.cast (htm ▸ maskTm_le [3, 4, 7] tm 0) (LeH.refl _) ?_
  rw [rf29_shape]
  exact W.range (s := ⟨tm29 (rowsR l), _, b⟩) (k := 61) (first := []) (caps := [.rptr [.sl 2 (rowsR l)]]) rfl rfl rfl (ic38 l hpre.2) (range29 (rowsR l) l x hpre.1 hK)

theorem pc29 (l : List Row) (m : Int) (p : List Int) (h1 : ∀ r ∈ l, okMask r) (h2 : l.length ≤ 9223372036854775807) : PCall Tryd.prog 47 [.d (.sl 2 (rowsR l)), eqA m p] (eqA (l.foldl red (m, p)).1 (l.foldl red (m, p)).2) := by
  refine PCall.ofFnW (n := 100) (u := false) (fun _ => wl29) mixed T29_ok SCallsOk.nil (fun Ev => wl29_ok) Tryd.func47 (by rfl) (by rfl) fun Ev bb => ?_
  rw [f29_nf]
  exact ⟨_, rfl, l, (m, p), rfl, rfl, rfl, ⟨h1, h2⟩, rfl⟩
def c29 (args : List AV) (K : AV → Prop) : Prop := ∃ (l : List Row) (m : Int) (p : List Int) (x : Row), args = [.d (.sl 2 (rowsR l)), eqA m p] ∧ ((∀ r ∈ l, okMask r) ∧ l.length ≤ 9223372036854775807) ∧ x = l.foldl red (m, p) ∧ K (eqA x.1 x.2)
theorem c29_ok : ∀ args K, c29 args K → ∃ x, PCall Tryd.prog 47 args x ∧ K x := by
  rintro _ K ⟨l, m, p, _, rfl, ⟨h1, h2⟩, rfl, h⟩; exact ⟨_, pc29 l m p h1 h2, h⟩

end Go.Proofs.YtkjmhfbjdeidjaaDoor.Am

namespace Go.Proofs.YtkjmhfbjdeidjaaDoor.Am
set_option linter.unusedVariables false
open Go Go.RowKit Go.Proofs

/-! ### Valid -/
abbrev cell (x : Dv) : Blk := ⟨[.d x], false, false, 0⟩

def vA : List Row → Int × Int → (Int × Int) × Bool
  | [], s => (s, true)
  | r :: l, s => if fine r.1 r.2 && decide (lead r.1 < s.2) then vA l (or64 s.1 (lead r.1), lead r.1) else (s, false)
def vB (L : Int) (l : List Row) : Bool := l.all fun r => and64 r.1 L == lead r.1
def validS (l : List Row) : Bool := (vA l (0, 65536)).2 && vB (vA l (0, 65536)).1.1 l

theorem fine_ok {r : Row} (h : fine r.1 r.2 = true) : okMask r := by
  simp only [fine, Bool.and_eq_true, decide_eq_true_eq] at h
  exact ⟨h.1, h.2.1⟩
theorem vA_ok : ∀ {l : List Row} {s : Int × Int}, (vA l s).2 = true → ∀ r ∈ l, fine r.1 r.2 = true
  | [], _, _, r, hr => by cases hr
  | r0 :: l, s, h, r, hr => by
    simp only [vA] at h
    split at h
    · rename_i hc
      simp only [Bool.and_eq_true] at hc
      rcases List.mem_cons.1 hr with rfl | hr
      · exact hc.1
      · exact vA_ok h r hr
    · cases h

noncomputable def rf20a : Code := sub [1, 1, 0, 1, 2] (code Tryd.f46)
noncomputable def rf20b : Code := sub [1, 1, 1, 0, 1, 2] (code Tryd.f46)
theorem rf20a_shape : rf20a = .rangeFunc (.tmp 9) #[10, 11] (assignOf rf20a) (bodyOf rf20a) := by kernel_rfl
theorem rf20b_shape : rf20b = .rangeFunc (.tmp 26) #[27, 28] (assignOf rf20b) (bodyOf rf20b) := by kernel_rfl
def tm20a (xs : List (List Dv)) : List AV := [.d (.sl 2 xs), .bad, .ptr 0 0, .ptr 1 0, .ptr 2 0, .bad, .bad, .bad, .bad, .fn (.func 61) [] [.rptr [.sl 2 xs]]] ++ List.replicate 26 .bad
def tm20b (xs : List (List Dv)) : List AV := [.bad, .bad, .ptr 0 0, .ptr 1 0, .ptr 2 0] ++ List.replicate 21 .bad ++ [.fn (.func 61) [] [.rptr [.sl 2 xs]]] ++ List.replicate 9 .bad
def hp20 (v : Bool) (s : Int × Int) : List Blk := [cell (bo v), cell (i64 s.1), cell (i64 s.2)]

def wl20 {β : Type} : WLT β := fun c tm hp b K => match cidO c with
  | 4 => ∃ (l : List Row) (s : Int × Int), c = rf20a ∧ maskTm [0, 2, 3, 4, 9] 0 tm = tm20a (rowsR l) ∧ hp = hp20 false s ∧ l.length ≤ 9223372036854775807 ∧
      BIf (vA l s).2 (K .normal (tm20a (rowsR l)) (hp20 false (vA l s).1) b) (K .ret (tm20a (rowsR l)) (hp20 false (vA l s).1) b)
  | 11 => ∃ (l : List Row) (s : Int × Int), c = rf20b ∧ maskTm [2, 3, 4, 26] 0 tm = tm20b (rowsR l) ∧ hp = hp20 false s ∧ ((∀ r ∈ l, okMask r) ∧ l.length ≤ 9223372036854775807) ∧
      BIf (vB s.1 l) (K .normal (tm20b (rowsR l)) (hp20 false s) b) (K .ret (tm20b (rowsR l)) (hp20 false s) b)
  | _ => False

section
variable {β : Type} (wl : WLT β) (y : YieldT β) (b : β) (R : AV → β → Prop) (K : Exit → List AV → List Blk → β → Prop) (Kh : Exit → List Blk → β → Prop)
theorem f20a_round (xs : List (List Dv)) (m : Int) (p : List Int) (f : Bool) (L P : Int) : wpcY Tryd.prog ⟨T29, [], wl, y, false⟩ 100 #[10, 11] (assignOf rf20a) (bodyOf rf20a) (tm20a xs) [eqA m p, .d (bo f)] [cell (bo false), cell (i64 L), cell (i64 P)] b (takeK 3 Kh) = (
  BIf (!f) (Kh Exit.ret [cell (bo false), cell (i64 L), cell (i64 P)] b)
  (∃ m0 p1,
    [eqA m p] = [eqA m0 p1] ∧
      ((1 : Int) ≤ m0 ∧ m0 < (65536 : Int)) ∧
        BIf (decide (lead m0 ≥ P)) (Kh Exit.ret [cell (bo false), cell (i64 L), cell (i64 P)] b)
          (∃ m2 p3,
            [eqA m p] = [eqA m2 p3] ∧
              ((1 : Int) ≤ m2 ∧ m2 < (65536 : Int)) ∧
                Kh Exit.normal
                  [cell (bo false), cell (i64 (IntKind.wrap IntKind.i64 ↑(BitVec.toNat (BitVec.ofInt (64 : Nat) L ||| BitVec.ofInt (64 : Nat) (lead m2))))),
                    cell (i64 (lead m2))]
                  b))) := by kernel_rfl
theorem f20b_round (xs : List (List Dv)) (m : Int) (p : List Int) (f : Bool) (L P : Int) : wpcY Tryd.prog ⟨T29, [], wl, y, false⟩ 100 #[27, 28] (assignOf rf20b) (bodyOf rf20b) (tm20b xs) [eqA m p, .d (bo f)] [cell (bo false), cell (i64 L), cell (i64 P)] b (takeK 3 Kh) = (
  ∃ m0 p1,
  [eqA m p] = [eqA m0 p1] ∧
    ((1 : Int) ≤ m0 ∧ m0 < (65536 : Int)) ∧
      BIf (IntKind.wrap IntKind.i64 ↑(BitVec.toNat (BitVec.ofInt (64 : Nat) m &&& BitVec.ofInt (64 : Nat) L)) != lead m0)
        (Kh Exit.ret [cell (bo false), cell (i64 L), cell (i64 P)] b) (Kh Exit.normal [cell (bo false), cell (i64 L), cell (i64 P)] b)) := by kernel_rfl
theorem f20_nf (xs : List (List Dv)) : wpFn Tryd.prog ⟨T29, [], wl20, y, false⟩ 100 Tryd.f46 [.d (.sl 2 xs)] b R = (
  ∃ xs0,
  [AV.d (Dv.sl (2 : Nat) xs)] = [AV.d (Dv.sl (2 : Nat) xs0)] ∧
    ∃ l1 s2,
      rf20a = rf20a ∧
        [AV.d (Dv.sl (2 : Nat) xs), AV.bad, AV.ptr (0 : Nat) (0 : Nat), AV.ptr (1 : Nat) (0 : Nat), AV.ptr (2 : Nat) (0 : Nat), AV.bad, AV.bad, AV.bad, AV.bad,
              AV.fn (Fn.func (61 : Nat)) [] [AV.rptr [Dv.sl (2 : Nat) xs0]], AV.bad, AV.bad, AV.bad, AV.bad, AV.bad, AV.bad, AV.bad, AV.bad, AV.bad, AV.bad,
              AV.bad, AV.bad, AV.bad, AV.bad, AV.bad, AV.bad, AV.bad, AV.bad, AV.bad, AV.bad, AV.bad, AV.bad, AV.bad, AV.bad, AV.bad, AV.bad] =
            [AV.d (Dv.sl (2 : Nat) (rowsR l1)), AV.bad, AV.ptr (0 : Nat) (0 : Nat), AV.ptr (1 : Nat) (0 : Nat), AV.ptr (2 : Nat) (0 : Nat), AV.bad, AV.bad,
              AV.bad, AV.bad, AV.fn (Fn.func (61 : Nat)) [] [AV.rptr [Dv.sl (2 : Nat) (rowsR l1)]], AV.bad, AV.bad, AV.bad, AV.bad, AV.bad, AV.bad, AV.bad,
              AV.bad, AV.bad, AV.bad, AV.bad, AV.bad, AV.bad, AV.bad, AV.bad, AV.bad, AV.bad, AV.bad, AV.bad, AV.bad, AV.bad, AV.bad, AV.bad, AV.bad, AV.bad,
              AV.bad] ∧
          [cell (bo false), cell (i64 (0 : Int)), cell (i64 (65536 : Int))] = [cell (bo false), cell (i64 (Prod.fst s2)), cell (i64 (Prod.snd s2))] ∧
            List.length l1 ≤ (9223372036854775807 : Nat) ∧
              BIf (Prod.snd (vA l1 s2))
                (∃ xs3,
                  [AV.d (Dv.sl (2 : Nat) (rowsR l1))] = [AV.d (Dv.sl (2 : Nat) xs3)] ∧
                    ∃ l4 s5,
                      rf20b = rf20b ∧
                        [AV.bad, AV.bad, AV.ptr (0 : Nat) (0 : Nat), AV.ptr (1 : Nat) (0 : Nat), AV.ptr (2 : Nat) (0 : Nat), AV.bad, AV.bad, AV.bad, AV.bad,
                              AV.bad, AV.bad, AV.bad, AV.bad, AV.bad, AV.bad, AV.bad, AV.bad, AV.bad, AV.bad, AV.bad, AV.bad, AV.bad, AV.bad, AV.bad, AV.bad,
                              AV.bad, AV.fn (Fn.func (61 : Nat)) [] [AV.rptr [Dv.sl (2 : Nat) xs3]], AV.bad, AV.bad, AV.bad, AV.bad, AV.bad, AV.bad, AV.bad,
                              AV.bad, AV.bad] =
                            [AV.bad, AV.bad, AV.ptr (0 : Nat) (0 : Nat), AV.ptr (1 : Nat) (0 : Nat), AV.ptr (2 : Nat) (0 : Nat), AV.bad, AV.bad, AV.bad, AV.bad,
                              AV.bad, AV.bad, AV.bad, AV.bad, AV.bad, AV.bad, AV.bad, AV.bad, AV.bad, AV.bad, AV.bad, AV.bad, AV.bad, AV.bad, AV.bad, AV.bad,
                              AV.bad, AV.fn (Fn.func (61 : Nat)) [] [AV.rptr [Dv.sl (2 : Nat) (rowsR l4)]], AV.bad, AV.bad, AV.bad, AV.bad, AV.bad, AV.bad,
                              AV.bad, AV.bad, AV.bad] ∧
                          [cell (bo false), cell (i64 (Prod.fst (Prod.fst (vA l1 s2)))), cell (i64 (Prod.snd (Prod.fst (vA l1 s2))))] =
                              [cell (bo false), cell (i64 (Prod.fst s5)), cell (i64 (Prod.snd s5))] ∧
                            ((∀ (r : Row), r ∈ l4 → (1 : Int) ≤ Prod.fst r ∧ Prod.fst r < (65536 : Int)) ∧ List.length l4 ≤ (9223372036854775807 : Nat)) ∧
                              BIf (vB (Prod.fst s5) l4) (R (AV.d (bo true)) b) (R (AV.d (bo false)) b))
                (R (AV.d (bo false)) b)) := by kernel_rfl
end

theorem range20a {Ev : Env Tryd.prog} {b : Ev.β} {Q : Exit → St Ev.β → Prop} (xs : List (List Dv)) : ∀ (l : List Row) (s : Int × Int),
    BIf (vA l s).2 (Q .normal ⟨tm20a xs, hp20 false (vA l s).1, b⟩) (Q .ret ⟨tm20a xs, hp20 false (vA l s).1, b⟩) →
    YList (YBody Ev (tm20a xs) #[10, 11] (assignOf rf20a) (bodyOf rf20a) 3) (l.map item) (hp20 false s, b, none) (rangeQ (tm20a xs) Q)
  | [], s, h => h
  | r :: l, s, h => by
    refine YList.step (X := ⟨T29, [], wlW Ev, Ev.Y, false⟩) (k := 100) mixed (CX.Ok.of T29_ok SCallsOk.nil) rfl ?_
    show wpcY _ _ _ _ _ _ _ [eqA _ _, .d (bo _)] [cell (bo false), cell (i64 _), cell (i64 _)] b (takeK 3 _)
    rw [f20a_round]
    simp only [vA] at h
    refine BIf.of (fun hf => ?_) fun hf => ?_
    · have hf : fine r.1 r.2 = false := by simpa using hf
      rw [hf] at h; exact h
    · have hf : fine r.1 r.2 = true := by simpa using hf
      have hm := fine_ok hf
      refine ⟨_, _, rfl, hm, BIf.of (fun hc => ?_) fun hc => ⟨_, _, rfl, hm, ?_⟩⟩
      · rw [if_neg (by simp only [ge_iff_le, decide_eq_true_eq] at hc; simp [hf]; omega)] at h; exact h
      · rw [if_pos (by simp only [ge_iff_le, decide_eq_false_iff_not] at hc; simp [hf]; omega)] at h
        exact range20a xs l (or64 s.1 (lead r.1), lead r.1) h

theorem range20b {Ev : Env Tryd.prog} {b : Ev.β} {Q : Exit → St Ev.β → Prop} (xs : List (List Dv)) (s : Int × Int) : ∀ (l : List Row), (∀ r ∈ l, okMask r) →
    BIf (vB s.1 l) (Q .normal ⟨tm20b xs, hp20 false s, b⟩) (Q .ret ⟨tm20b xs, hp20 false s, b⟩) →
    YList (YBody Ev (tm20b xs) #[27, 28] (assignOf rf20b) (bodyOf rf20b) 3) (l.map item) (hp20 false s, b, none) (rangeQ (tm20b xs) Q)
  | [], _, h => h
  | r :: l, hok, h => by
    refine YList.step (X := ⟨T29, [], wlW Ev, Ev.Y, false⟩) (k := 100) mixed (CX.Ok.of T29_ok SCallsOk.nil) rfl ?_
    show wpcY _ _ _ _ _ _ _ [eqA _ _, .d (bo _)] [cell (bo false), cell (i64 _), cell (i64 _)] b (takeK 3 _)
    rw [f20b_round]
    refine ⟨_, _, rfl, hok r (List.mem_cons_self ..), BIf.of (fun hc => ?_) fun hc => ?_⟩
    · change (and64 r.1 s.1 != lead r.1) = true at hc
      have : vB s.1 (r :: l) = false := by
        simp only [vB, List.all_cons]
        rw [show (and64 r.1 s.1 == lead r.1) = false by simpa [bne] using hc]; rfl
      rw [this] at h; exact h
    · change (and64 r.1 s.1 != lead r.1) = false at hc
      refine range20b xs s l (fun r' hr => hok r' (List.mem_cons_of_mem _ hr)) ?_
      have : vB s.1 (r :: l) = vB s.1 l := by
        simp only [vB, List.all_cons]
        rw [show (and64 r.1 s.1 == lead r.1) = true by simpa [bne] using hc]; rfl
      rw [this] at h; exact h

theorem wl20_ok {Ev : Env Tryd.prog} (c : Code) (tm : List AV) (hp : List Blk) (b : Ev.β) (K : Exit → List AV → List Blk → Ev.β → Prop) (h : wl20 c tm hp b K) : W Ev c ⟨tm, hp, b⟩ (fun e s => K e s.tm s.hp s.b) := by
  unfold wl20 at h
  split at h
  · obtain ⟨l, s, rfl, htm, rfl, hpre, hK⟩ := h
    refine W.cast (htm ▸ maskTm_le _ tm 0) (LeH.refl _) ?_
    rw [rf20a_shape]
    exact W.range (s := ⟨tm20a (rowsR l), _, b⟩) (k := 61) (first := []) (caps := [.rptr [.sl 2 (rowsR l)]]) rfl rfl rfl (ic38 l hpre) (range20a (rowsR l) l s hK)
  · obtain ⟨l, s, rfl, htm, rfl, hpre, hK⟩ := h
    refine W.cast (htm ▸ maskTm_le _ tm 0) (LeH.refl _) ?_
    rw [rf20b_shape]
    exact W.range (s := ⟨tm20b (rowsR l), _, b⟩) (k := 61) (first := []) (caps := [.rptr [.sl 2 (rowsR l)]]) rfl rfl rfl (ic38 l hpre.2) (range20b (rowsR l) s l hpre.1 hK)
  · exact h.elim

theorem pc20 (l : List Row) (hl : l.length ≤ 9223372036854775807) : PCall Tryd.prog 46 [.d (.sl 2 (rowsR l))] (.d (bo (validS l))) := by
  refine PCall.ofFnW (n := 100) (u := false) (fun _ => wl20) mixed T29_ok SCallsOk.nil (fun Ev => wl20_ok) Tryd.func46 (by rfl) (by rfl) fun Ev bb => ?_
  rw [f20_nf]
  refine ⟨_, rfl, l, (0, 65536), rfl, rfl, rfl, hl, BIf.of (fun ha => ⟨_, rfl, l, _, rfl, rfl, rfl, ⟨fun r hr => fine_ok (vA_ok ha r hr), hl⟩, BIf.of (fun hb => ?_) fun hb => ?_⟩) fun ha => ?_⟩
  · rw [show validS l = true by simp only [validS, ha, hb]; rfl]
  · rw [show validS l = false by simp only [validS, ha, hb]; rfl]
  · rw [show validS l = false by simp only [validS, ha]; rfl]
def c20 (args : List AV) (K : AV → Prop) : Prop := ∃ (l : List Row), args = [.d (.sl 2 (rowsR l))] ∧ l.length ≤ 9223372036854775807 ∧ K (.d (bo (validS l)))
theorem c20_ok : ∀ args K, c20 args K → ∃ x, PCall Tryd.prog 46 args x ∧ K x := by
  rintro _ K ⟨l, rfl, h1, h⟩; exact ⟨_, pc20 l h1, h⟩

end Go.Proofs.YtkjmhfbjdeidjaaDoor.Am

namespace Go.Proofs.YtkjmhfbjdeidjaaDoor.Am
set_option linter.unusedVariables false
open Go Go.RowKit Go.Proofs

abbrev TS : List (Nat × (List AV → (AV → Prop) → Prop)) := [(46, c20), (45, c28), (47, c29), (48, c30), (49, c31), (50, c32), (51, c33)]
theorem TS_ok : CallsOk Tryd.prog TS := CallsOk.cons c20_ok (CallsOk.cons c28_ok (CallsOk.cons c29_ok (CallsOk.cons c30_ok (CallsOk.cons c31_ok (CallsOk.cons c32_ok (CallsOk.cons c33_ok CallsOk.nil))))))

/-! ### Add -/
abbrev rowB (m : Int) (bs : List (List Dv)) : Blk := ⟨[.d (i64 m), .d (.sl 1 bs)], false, false, 0⟩
abbrev acc (xs : List (List Dv)) : Blk := ⟨[.own 52 2 xs], false, false, 0⟩
noncomputable def rf12a : Code := sub [1, 1, 1, 1, 0, 2, 1, 4, 1, 0, 1, 2] (code Tryd.f34)
noncomputable def rf12b : Code := sub [1, 1, 1, 1, 1, 1, 1, 0, 1, 2] (code Tryd.f34)
theorem rf12a_shape : rf12a = .rangeFunc (.tmp 34) #[35, 36] (assignOf rf12a) (bodyOf rf12a) := by kernel_rfl
theorem rf12b_shape : rf12b = .rangeFunc (.tmp 48) #[49, 50] (assignOf rf12b) (bodyOf rf12b) := by kernel_rfl
def tm12a (xs : List (List Dv)) : List AV := List.replicate 9 .bad ++ [.ptr 2 0] ++ List.replicate 24 .bad ++ [.fn (.func 61) [] [.rptr [.sl 2 xs]]] ++ List.replicate 60 .bad
def tm12b (xs : List (List Dv)) : List AV := List.replicate 7 .bad ++ [.ptr 1 0, .bad, .bad, .bad, .ptr 2 0, .ptr 3 0] ++ List.replicate 35 .bad ++ [.fn (.func 61) [] [.rptr [.sl 2 xs]]] ++ List.replicate 46 .bad

section
variable {β : Type} (wl : WLT β) (y : YieldT β) (b : β) (R : AV → β → Prop) (K : Exit → List AV → List Blk → β → Prop) (Kh : Exit → List Blk → β → Prop)
theorem f12a_round (xs out : List (List Dv)) (m m0 : Int) (p p0 : List Int) (f : Bool) (m9 : Int) (bs9 : List (List Dv)) : wpcY Tryd.prog ⟨TS, [], wl, y, false⟩ 100 #[35, 36] (assignOf rf12a) (bodyOf rf12a) (tm12a xs) [eqA m p, .d (bo f)] [rowB m9 bs9, bq m0 p0, acc out] b (takeK 3 Kh) = (
  ∃ m0_1 p1 q2,
  [eqA m p] = [eqA m0_1 p1] ∧
    q2 = bytesR (b16 p1) ∧
      BIf (true && decide ((List.length out + (1 : Nat)) * (32 : Nat) ≤ (140737488355328 : Nat)))
        (Kh Exit.normal
          [{ cells := [AV.d (i64 m9), AV.d (Dv.sl (1 : Nat) bs9)] }, bq m0 p0,
            { cells := [AV.own (52 : Nat) (2 : Nat) (out ++ [[i64 m0_1, Dv.sl (1 : Nat) q2]])] }]
          b)
        False) := by kernel_rfl
theorem f12b_round (xs out : List (List Dv)) (m m0 : Int) (p p0 : List Int) (f pl : Bool) (m9 : Int) (bs9 : List (List Dv)) : wpcY Tryd.prog ⟨TS, [], wl, y, false⟩ 100 #[49, 50] (assignOf rf12b) (bodyOf rf12b) (tm12b xs) [eqA m p, .d (bo f)] [rowB m9 bs9, bq m0 p0, acc out, cell (bo pl)] b (takeK 4 Kh) = (
  BIf (!pl)
  (∃ m0_1 p1,
    [eqA m p] = [eqA m0_1 p1] ∧
      ((1 : Int) ≤ m0_1 ∧ m0_1 < (65536 : Int)) ∧
        ∃ m2 p3,
          [eqA m0 p0] = [eqA m2 p3] ∧
            ((1 : Int) ≤ m2 ∧ m2 < (65536 : Int)) ∧
              BIf (decide (lead m0_1 < lead m2))
                (∃ m4 p5 q6,
                  [eqA m0 p0] = [eqA m4 p5] ∧
                    q6 = bytesR (b16 p5) ∧
                      BIf (true && decide ((List.length out + (1 : Nat)) * (32 : Nat) ≤ (140737488355328 : Nat)))
                        (∃ m7 p8,
                          [eqA m0 p0] = [eqA m7 p8] ∧
                            ((1 : Int) ≤ m7 ∧ m7 < (65536 : Int)) ∧
                              BIf (IntKind.wrap IntKind.i64 ↑(BitVec.toNat (BitVec.ofInt (64 : Nat) m &&& BitVec.ofInt (64 : Nat) (lead m7))) != (0 : Int))
                                (∃ p9 q10 r11,
                                  [AV.agg (cells16 p), AV.agg (cells16 p0)] = [AV.agg (cells16 p9), AV.agg (cells16 q10)] ∧
                                    r11 = xorL p9 q10 ∧
                                      ∃ m12 p13 q14,
                                        [eqA (IntKind.wrap IntKind.i64 ↑(BitVec.toNat (BitVec.ofInt (64 : Nat) m ^^^ BitVec.ofInt (64 : Nat) m0))) r11] =
                                            [eqA m12 p13] ∧
                                          q14 = bytesR (b16 p13) ∧
                                            BIf
                                              (true &&
                                                decide
                                                  ((List.length (out ++ [[i64 m4, Dv.sl (1 : Nat) q6]]) + (1 : Nat)) * (32 : Nat) ≤ (140737488355328 : Nat)))
                                              (Kh Exit.normal
                                                [{ cells := [AV.d (i64 m9), AV.d (Dv.sl (1 : Nat) bs9)] }, bq m0 p0,
                                                  {
                                                    cells :=
                                                      [AV.own (52 : Nat) (2 : Nat)
                                                          (out ++ [[i64 m4, Dv.sl (1 : Nat) q6]] ++ [[i64 m12, Dv.sl (1 : Nat) q14]])] },
                                                  cell (bo true)]
                                                b)
                                              False)
                                (∃ m15 p16 q17,
                                  [eqA m p] = [eqA m15 p16] ∧
                                    q17 = bytesR (b16 p16) ∧
                                      BIf
                                        (true &&
                                          decide ((List.length (out ++ [[i64 m4, Dv.sl (1 : Nat) q6]]) + (1 : Nat)) * (32 : Nat) ≤ (140737488355328 : Nat)))
                                        (Kh Exit.normal
                                          [{ cells := [AV.d (i64 m9), AV.d (Dv.sl (1 : Nat) bs9)] }, bq m0 p0,
                                            {
                                              cells :=
                                                [AV.own (52 : Nat) (2 : Nat) (out ++ [[i64 m4, Dv.sl (1 : Nat) q6]] ++ [[i64 m15, Dv.sl (1 : Nat) q17]])] },
                                            cell (bo true)]
                                          b)
                                        False))
                        False)
                (∃ m18 p19,
                  [eqA m0 p0] = [eqA m18 p19] ∧
                    ((1 : Int) ≤ m18 ∧ m18 < (65536 : Int)) ∧
                      BIf (IntKind.wrap IntKind.i64 ↑(BitVec.toNat (BitVec.ofInt (64 : Nat) m &&& BitVec.ofInt (64 : Nat) (lead m18))) != (0 : Int))
                        (∃ p20 q21 r22,
                          [AV.agg (cells16 p), AV.agg (cells16 p0)] = [AV.agg (cells16 p20), AV.agg (cells16 q21)] ∧
                            r22 = xorL p20 q21 ∧
                              ∃ m23 p24 q25,
                                [eqA (IntKind.wrap IntKind.i64 ↑(BitVec.toNat (BitVec.ofInt (64 : Nat) m ^^^ BitVec.ofInt (64 : Nat) m0))) r22] =
                                    [eqA m23 p24] ∧
                                  q25 = bytesR (b16 p24) ∧
                                    BIf (true && decide ((List.length out + (1 : Nat)) * (32 : Nat) ≤ (140737488355328 : Nat)))
                                      (Kh Exit.normal
                                        [{ cells := [AV.d (i64 m9), AV.d (Dv.sl (1 : Nat) bs9)] }, bq m0 p0,
                                          { cells := [AV.own (52 : Nat) (2 : Nat) (out ++ [[i64 m23, Dv.sl (1 : Nat) q25]])] }, cell (bo pl)]
                                        b)
                                      False)
                        (∃ m26 p27 q28,
                          [eqA m p] = [eqA m26 p27] ∧
                            q28 = bytesR (b16 p27) ∧
                              BIf (true && decide ((List.length out + (1 : Nat)) * (32 : Nat) ≤ (140737488355328 : Nat)))
                                (Kh Exit.normal
                                  [{ cells := [AV.d (i64 m9), AV.d (Dv.sl (1 : Nat) bs9)] }, bq m0 p0,
                                    { cells := [AV.own (52 : Nat) (2 : Nat) (out ++ [[i64 m26, Dv.sl (1 : Nat) q28]])] }, cell (bo pl)]
                                  b)
                                False)))
  (∃ m29 p30,
    [eqA m0 p0] = [eqA m29 p30] ∧
      ((1 : Int) ≤ m29 ∧ m29 < (65536 : Int)) ∧
        BIf (IntKind.wrap IntKind.i64 ↑(BitVec.toNat (BitVec.ofInt (64 : Nat) m &&& BitVec.ofInt (64 : Nat) (lead m29))) != (0 : Int))
          (∃ p31 q32 r33,
            [AV.agg (cells16 p), AV.agg (cells16 p0)] = [AV.agg (cells16 p31), AV.agg (cells16 q32)] ∧
              r33 = xorL p31 q32 ∧
                ∃ m34 p35 q36,
                  [eqA (IntKind.wrap IntKind.i64 ↑(BitVec.toNat (BitVec.ofInt (64 : Nat) m ^^^ BitVec.ofInt (64 : Nat) m0))) r33] = [eqA m34 p35] ∧
                    q36 = bytesR (b16 p35) ∧
                      BIf (true && decide ((List.length out + (1 : Nat)) * (32 : Nat) ≤ (140737488355328 : Nat)))
                        (Kh Exit.normal
                          [{ cells := [AV.d (i64 m9), AV.d (Dv.sl (1 : Nat) bs9)] }, bq m0 p0,
                            { cells := [AV.own (52 : Nat) (2 : Nat) (out ++ [[i64 m34, Dv.sl (1 : Nat) q36]])] }, cell (bo pl)]
                          b)
                        False)
          (∃ m37 p38 q39,
            [eqA m p] = [eqA m37 p38] ∧
              q39 = bytesR (b16 p38) ∧
                BIf (true && decide ((List.length out + (1 : Nat)) * (32 : Nat) ≤ (140737488355328 : Nat)))
                  (Kh Exit.normal
                    [{ cells := [AV.d (i64 m9), AV.d (Dv.sl (1 : Nat) bs9)] }, bq m0 p0,
                      { cells := [AV.own (52 : Nat) (2 : Nat) (out ++ [[i64 m37, Dv.sl (1 : Nat) q39]])] }, cell (bo pl)]
                    b)
                  False))) := by kernel_rfl
end

end Go.Proofs.YtkjmhfbjdeidjaaDoor.Am

namespace Go.Proofs.YtkjmhfbjdeidjaaDoor.Am
set_option linter.unusedVariables false
open Go Go.RowKit Go.Proofs

theorem rowsR_snoc (out : List Row) (m : Int) (p : List Int) : rowsR out ++ [[i64 m, .sl 1 (bytesR (b16 p))]] = rowsR (out ++ [(m, b16 p)]) := by simp [rowsR, rowD]
theorem rowsR_len (out : List Row) : (rowsR out).length = out.length := by simp [rowsR]

theorem tt32 {n : Nat} (h : n ≤ 1000000) : (true && decide ((n + 1) * 32 ≤ 140737488355328)) = true := by
  rw [decide_eq_true (Nat.le_trans (Nat.mul_le_mul_right 32 (Nat.succ_le_succ h)) (by decide))]; rfl

/-- the rows as they are kept -/
def keepR (r : Row) : Row := (r.1, b16 (pad r.2))

theorem range12a {Ev : Env Tryd.prog} {b : Ev.β} {Q : Exit → St Ev.β → Prop} (xs : List (List Dv)) (m9 : Int) (bs9 : List (List Dv)) (x : Row) : ∀ (l out : List Row), out.length + l.length ≤ 1000000 →
    Q .normal ⟨tm12a xs, [rowB m9 bs9, bq x.1 x.2, acc (rowsR (out ++ l.map keepR))], b⟩ →
    YList (YBody Ev (tm12a xs) #[35, 36] (assignOf rf12a) (bodyOf rf12a) 3) (l.map item) ([rowB m9 bs9, bq x.1 x.2, acc (rowsR out)], b, none) (rangeQ (tm12a xs) Q)
  | [], out, _, h => by simpa [YList, rangeQ] using h
  | r :: l, out, hl, h => by
    refine YList.step (X := ⟨TS, [], wlW Ev, Ev.Y, false⟩) (k := 100) mixed (CX.Ok.of TS_ok SCallsOk.nil) rfl ?_
    show wpcY _ _ _ _ _ _ _ [eqA _ _, .d (bo _)] [rowB _ _, bq _ _, acc _] b (takeK 3 _)
    rw [f12a_round]
    simp only [List.length_cons] at hl
    refine ⟨r.1, pad r.2, _, rfl, rfl, BIf.t (tt32 (by rw [rowsR_len]; omega)) ?_⟩
    show YList _ _ ([rowB m9 bs9, bq x.1 x.2, acc (rowsR out ++ [[i64 r.1, .sl 1 (bytesR (b16 (pad r.2)))]])], b, none) _
    rw [rowsR_snoc]
    refine range12a xs m9 bs9 x l (out ++ [keepR r]) (by simp; omega) ?_
    simpa using h

/-- one row more among the rows -/
def stepB (e : Row) (s : List Row × Bool) (r : Row) : List Row × Bool :=
  ((if !s.2 && decide (lead r.1 < lead e.1) then s.1 ++ [(e.1, b16 e.2)] else s.1) ++ [if and64 r.1 (lead e.1) != 0 then (xor64 r.1 e.1, b16 (xorL (pad r.2) e.2)) else (r.1, b16 (pad r.2))],
   s.2 || decide (lead r.1 < lead e.1))

set_option maxHeartbeats 4000000 in
theorem range12b {Ev : Env Tryd.prog} {b : Ev.β} {Q : Exit → St Ev.β → Prop} (xs : List (List Dv)) (m9 : Int) (bs9 : List (List Dv)) (e : Row) (he : okMask e) : ∀ (l out : List Row) (pl : Bool), (∀ r ∈ l, okMask r) → out.length + 2 * l.length ≤ 1000000 →
    Q .normal ⟨tm12b xs, [rowB m9 bs9, bq e.1 e.2, acc (rowsR (l.foldl (stepB e) (out, pl)).1), cell (bo (l.foldl (stepB e) (out, pl)).2)], b⟩ →
    YList (YBody Ev (tm12b xs) #[49, 50] (assignOf rf12b) (bodyOf rf12b) 4) (l.map item) ([rowB m9 bs9, bq e.1 e.2, acc (rowsR out), cell (bo pl)], b, none) (rangeQ (tm12b xs) Q)
  | [], out, pl, _, _, h => h
  | r :: l, out, pl, hok, hl, h => by
    refine YList.step (X := ⟨TS, [], wlW Ev, Ev.Y, false⟩) (k := 100) mixed (CX.Ok.of TS_ok SCallsOk.nil) rfl ?_
    show wpcY _ _ _ _ _ _ _ [eqA _ _, .d (bo _)] [rowB _ _, bq _ _, acc _, cell (bo _)] b (takeK 4 _)
    rw [f12b_round]
    simp only [List.length_cons] at hl
    have hr := hok r (List.mem_cons_self ..)
    have hok' : ∀ r ∈ l, okMask r := fun r' h' => hok r' (List.mem_cons_of_mem _ h')
    rw [List.foldl_cons] at h
    have key : ∀ (out1 : List Row) (pl1 : Bool), out1.length ≤ out.length + 1 → (∀ (m : Int) (p : List Int), stepB e (out, pl) r = (out1 ++ [(m, b16 p)], pl1) →
        YList (YBody Ev (tm12b xs) #[49, 50] (assignOf rf12b) (bodyOf rf12b) 4) (l.map item) ([rowB m9 bs9, bq e.1 e.2, acc (rowsR out1 ++ [[i64 m, .sl 1 (bytesR (b16 p))]]), cell (bo pl1)], b, none) (rangeQ (tm12b xs) Q)) := by
      intro out1 pl1 hlen m p hs
      rw [rowsR_snoc]
      refine range12b xs m9 bs9 e he l (out1 ++ [(m, b16 p)]) pl1 hok' (by rw [List.length_append, List.length_singleton]; omega) ?_
      rw [← hs]; exact h
    have hn0 := tt32 (n := (rowsR out).length) (by rw [rowsR_len]; omega)
    have hn1 : ∀ (p : List Int), (true && decide (((rowsR out ++ [[i64 e.1, .sl 1 (bytesR (b16 p))]]).length + 1) * 32 ≤ 140737488355328)) = true := fun p => tt32 (by rw [rowsR_snoc, rowsR_len, List.length_append, List.length_singleton]; omega)
    refine BIf.of (fun h1 => ?_) fun h1 => ?_
    · have h1 : pl = false := by simpa using h1
      refine ⟨r.1, pad r.2, rfl, hr, e.1, e.2, rfl, he, BIf.of (fun h2 => ?_) fun h2 => ?_⟩
      · refine ⟨e.1, e.2, _, rfl, rfl, BIf.t hn0 ⟨e.1, e.2, rfl, he, BIf.of (fun h3 => ?_) fun h3 => ?_⟩⟩
        · change (and64 r.1 (lead e.1) != 0) = true at h3
          refine ⟨pad r.2, e.2, _, rfl, rfl, _, _, _, rfl, rfl, BIf.t (hn1 _) ?_⟩
          show YList _ _ ([rowB m9 bs9, bq e.1 e.2, acc ((rowsR out ++ _) ++ _), cell (bo true)], b, none) _
          rw [rowsR_snoc]
          refine key (out ++ [(e.1, b16 e.2)]) true (by simp) _ _ ?_
          simp only [stepB, h1, h2, h3, Bool.not_false, Bool.and_self, if_true, Bool.or_true]; rfl
        · change (and64 r.1 (lead e.1) != 0) = false at h3
          refine ⟨_, _, _, rfl, rfl, BIf.t (hn1 _) ?_⟩
          show YList _ _ ([rowB m9 bs9, bq e.1 e.2, acc ((rowsR out ++ _) ++ _), cell (bo true)], b, none) _
          rw [rowsR_snoc]
          refine key (out ++ [(e.1, b16 e.2)]) true (by simp) _ _ ?_
          simp only [stepB, h1, h2, h3, Bool.not_false, Bool.and_self, if_true, Bool.or_true, Bool.false_eq_true, if_false]
      · refine ⟨e.1, e.2, rfl, he, BIf.of (fun h3 => ?_) fun h3 => ?_⟩
        · change (and64 r.1 (lead e.1) != 0) = true at h3
          refine ⟨pad r.2, e.2, _, rfl, rfl, _, _, _, rfl, rfl, BIf.t hn0 (key out pl (by omega) _ _ ?_)⟩
          simp only [stepB, h1, h2, h3, Bool.and_false, if_true, Bool.or_false, Bool.false_eq_true, if_false]; rfl
        · change (and64 r.1 (lead e.1) != 0) = false at h3
          refine ⟨_, _, _, rfl, rfl, BIf.t hn0 (key out pl (by omega) _ _ ?_)⟩
          simp only [stepB, h1, h2, h3, Bool.and_false, Bool.or_false, Bool.false_eq_true, if_false]
    · have h1 : pl = true := by simpa using h1
      refine ⟨e.1, e.2, rfl, he, BIf.of (fun h3 => ?_) fun h3 => ?_⟩
      · change (and64 r.1 (lead e.1) != 0) = true at h3
        refine ⟨pad r.2, e.2, _, rfl, rfl, _, _, _, rfl, rfl, BIf.t hn0 (key out pl (by omega) _ _ ?_)⟩
        simp only [stepB, h1, h3, Bool.not_true, Bool.false_and, if_true, Bool.true_or, Bool.false_eq_true, if_false]; rfl
      · change (and64 r.1 (lead e.1) != 0) = false at h3
        refine ⟨_, _, _, rfl, rfl, BIf.t hn0 (key out pl (by omega) _ _ ?_)⟩
        simp only [stepB, h1, h3, Bool.not_true, Bool.false_and, Bool.true_or, Bool.false_eq_true, if_false]

/-- what the ranges of Add come to -/
def wl12 {β : Type} : WLT β := fun c tm hp b K => match cidO c with
  | 9 => ∃ (l : List Row) (m9 : Int) (bs9 : List (List Dv)) (x : Row), c = rf12a ∧ maskTm [9, 34] 0 tm = tm12a (rowsR l) ∧ hp = [rowB m9 bs9, bq x.1 x.2, cell (.s (.slice none 0 0))] ∧ l.length ≤ 1000000 ∧
      K .normal (tm12a (rowsR l)) [rowB m9 bs9, bq x.1 x.2, acc (rowsR (l.map keepR))] b
  | 17 => ∃ (l : List Row) (m9 : Int) (bs9 : List (List Dv)) (e : Row) (s : List Row × Bool), c = rf12b ∧ maskTm [7, 11, 12, 48] 0 tm = tm12b (rowsR l) ∧ hp = [rowB m9 bs9, bq e.1 e.2, cell (.s (.slice none 0 0)), cell (bo false)] ∧ (okMask e ∧ (∀ r ∈ l, okMask r) ∧ 2 * l.length ≤ 1000000) ∧
      s = l.foldl (stepB e) ([], false) ∧ K .normal (tm12b (rowsR l)) [rowB m9 bs9, bq e.1 e.2, acc (rowsR s.1), cell (bo s.2)] b
  | _ => False

theorem wl12_ok {Ev : Env Tryd.prog} (c : Code) (tm : List AV) (hp : List Blk) (b : Ev.β) (K : Exit → List AV → List Blk → Ev.β → Prop) (h : wl12 c tm hp b K) : W Ev c ⟨tm, hp, b⟩ (fun e s => K e s.tm s.hp s.b) := by
  unfold wl12 at h
  split at h
  · obtain ⟨l, m9, bs9, x, rfl, htm, rfl, hpre, hK⟩ := h
    refine W.cast (hp' := [rowB m9 bs9, bq x.1 x.2, acc (rowsR [])]) (htm ▸ maskTm_le _ tm 0) (.cons (LeL.refl _) (.cons (LeL.refl _) (.cons (.cons (LeA.nilOwn rfl) .nil) .nil))) ?_
    rw [rf12a_shape]
    exact W.range (s := ⟨tm12a (rowsR l), _, b⟩) (k := 61) (first := []) (caps := [.rptr [.sl 2 (rowsR l)]]) rfl rfl rfl (ic38 l (by omega)) (range12a (rowsR l) m9 bs9 x l [] (by simpa using hpre) hK)
  · obtain ⟨l, m9, bs9, e, s, rfl, htm, rfl, ⟨he, hok, hl⟩, rfl, hK⟩ := h
    refine W.cast (hp' := [rowB m9 bs9, bq e.1 e.2, acc (rowsR []), cell (bo false)]) (htm ▸ maskTm_le _ tm 0) (.cons (LeL.refl _) (.cons (LeL.refl _) (.cons (.cons (LeA.nilOwn rfl) .nil) (.cons (LeL.refl _) .nil)))) ?_
    rw [rf12b_shape]
    exact W.range (s := ⟨tm12b (rowsR l), _, b⟩) (k := 61) (first := []) (caps := [.rptr [.sl 2 (rowsR l)]]) rfl rfl rfl (ic38 l (by omega)) (range12b (rowsR l) m9 bs9 e he l [] false hok (by simpa using hl) hK)
  · exact h.elim

section
variable {β : Type} (wl : WLT β) (y : YieldT β) (b : β) (R : AV → β → Prop)
theorem f12_nf (xs : List (List Dv)) (m : Int) (p : List Int) : wpFn Tryd.prog ⟨TS, [], wl12, y, false⟩ 100 Tryd.f34 [.d (.sl 2 xs), rowA m p] b R = (
  ∃ m0 b1,
  [AV.agg [AV.d (i64 m), AV.d (Dv.sl (1 : Nat) (bytesR p))]] = [AV.agg [AV.d (i64 m0), AV.d (Dv.sl (1 : Nat) (bytesR b1))]] ∧
    ∃ l2,
      [AV.d (Dv.sl (2 : Nat) xs)] = [AV.d (Dv.sl (2 : Nat) (rowsR l2))] ∧
        List.length l2 ≤ (9223372036854775807 : Nat) ∧
          BIf (!validS l2) (R (AV.tup [AV.d (Dv.s (Value.slice none (0 : Nat) (0 : Nat))), AV.d (bo false), AV.d (i64 (1 : Int))]) b)
            (BIf (!fine m0 b1) (R (AV.tup [AV.d (Dv.s (Value.slice none (0 : Nat) (0 : Nat))), AV.d (bo false), AV.d (i64 (1 : Int))]) b)
              (∃ l3 m4 p5 x6,
                [AV.d (Dv.sl (2 : Nat) xs), eqA m0 (pad b1)] = [AV.d (Dv.sl (2 : Nat) (rowsR l3)), eqA m4 p5] ∧
                  ((∀ (r : Row), r ∈ l3 → (1 : Int) ≤ Prod.fst r ∧ Prod.fst r < (65536 : Int)) ∧ List.length l3 ≤ (9223372036854775807 : Nat)) ∧
                    x6 = List.foldl red (m4, p5) l3 ∧
                      BIf
                        (Prod.fst x6 == (0 : Int) &&
                          (nth (Prod.snd x6) (0 : Nat) == (0 : Int) &&
                              (nth (Prod.snd x6) (1 : Nat) == (0 : Int) &&
                                (nth (Prod.snd x6) (2 : Nat) == (0 : Int) &&
                                  (nth (Prod.snd x6) (3 : Nat) == (0 : Int) &&
                                    (nth (Prod.snd x6) (4 : Nat) == (0 : Int) &&
                                      (nth (Prod.snd x6) (5 : Nat) == (0 : Int) &&
                                        (nth (Prod.snd x6) (6 : Nat) == (0 : Int) &&
                                          (nth (Prod.snd x6) (7 : Nat) == (0 : Int) &&
                                            (nth (Prod.snd x6) (8 : Nat) == (0 : Int) &&
                                              (nth (Prod.snd x6) (9 : Nat) == (0 : Int) &&
                                                (nth (Prod.snd x6) (10 : Nat) == (0 : Int) &&
                                                  (nth (Prod.snd x6) (11 : Nat) == (0 : Int) &&
                                                    (nth (Prod.snd x6) (12 : Nat) == (0 : Int) &&
                                                      (nth (Prod.snd x6) (13 : Nat) == (0 : Int) &&
                                                        (nth (Prod.snd x6) (14 : Nat) == (0 : Int) &&
                                                          (nth (Prod.snd x6) (15 : Nat) == (0 : Int) && true))))))))))))))) &&
                            true))
                        (∃ xs7,
                          [AV.d (Dv.sl (2 : Nat) xs)] = [AV.d (Dv.sl (2 : Nat) xs7)] ∧
                            ∃ l8 m9 bs10 x11,
                              rf12a = rf12a ∧
                                [AV.bad, AV.bad, AV.bad, AV.bad, AV.bad, AV.bad, AV.bad, AV.bad, AV.bad, AV.ptr (2 : Nat) (0 : Nat), AV.bad, AV.bad, AV.bad,
                                      AV.bad, AV.bad, AV.bad, AV.bad, AV.bad, AV.bad, AV.bad, AV.bad, AV.bad, AV.bad, AV.bad, AV.bad, AV.bad, AV.bad, AV.bad,
                                      AV.bad, AV.bad, AV.bad, AV.bad, AV.bad, AV.bad, AV.fn (Fn.func (61 : Nat)) [] [AV.rptr [Dv.sl (2 : Nat) xs7]], AV.bad,
                                      AV.bad, AV.bad, AV.bad, AV.bad, AV.bad, AV.bad, AV.bad, AV.bad, AV.bad, AV.bad, AV.bad, AV.bad, AV.bad, AV.bad, AV.bad,
                                      AV.bad, AV.bad, AV.bad, AV.bad, AV.bad, AV.bad, AV.bad, AV.bad, AV.bad, AV.bad, AV.bad, AV.bad, AV.bad, AV.bad, AV.bad,
                                      AV.bad, AV.bad, AV.bad, AV.bad, AV.bad, AV.bad, AV.bad, AV.bad, AV.bad, AV.bad, AV.bad, AV.bad, AV.bad, AV.bad, AV.bad,
                                      AV.bad, AV.bad, AV.bad, AV.bad, AV.bad, AV.bad, AV.bad, AV.bad, AV.bad, AV.bad, AV.bad, AV.bad, AV.bad, AV.bad] =
                                    [AV.bad, AV.bad, AV.bad, AV.bad, AV.bad, AV.bad, AV.bad, AV.bad, AV.bad, AV.ptr (2 : Nat) (0 : Nat), AV.bad, AV.bad, AV.bad,
                                      AV.bad, AV.bad, AV.bad, AV.bad, AV.bad, AV.bad, AV.bad, AV.bad, AV.bad, AV.bad, AV.bad, AV.bad, AV.bad, AV.bad, AV.bad,
                                      AV.bad, AV.bad, AV.bad, AV.bad, AV.bad, AV.bad, AV.fn (Fn.func (61 : Nat)) [] [AV.rptr [Dv.sl (2 : Nat) (rowsR l8)]],
                                      AV.bad, AV.bad, AV.bad, AV.bad, AV.bad, AV.bad, AV.bad, AV.bad, AV.bad, AV.bad, AV.bad, AV.bad, AV.bad, AV.bad, AV.bad,
                                      AV.bad, AV.bad, AV.bad, AV.bad, AV.bad, AV.bad, AV.bad, AV.bad, AV.bad, AV.bad, AV.bad, AV.bad, AV.bad, AV.bad, AV.bad,
                                      AV.bad, AV.bad, AV.bad, AV.bad, AV.bad, AV.bad, AV.bad, AV.bad, AV.bad, AV.bad, AV.bad, AV.bad, AV.bad, AV.bad, AV.bad,
                                      AV.bad, AV.bad, AV.bad, AV.bad, AV.bad, AV.bad, AV.bad, AV.bad, AV.bad, AV.bad, AV.bad, AV.bad, AV.bad, AV.bad, AV.bad] ∧
                                  [{ cells := [AV.d (i64 m), AV.d (Dv.sl (1 : Nat) (bytesR p))] }, bq (Prod.fst x6) (Prod.snd x6),
                                        cell (Dv.s (Value.slice none (0 : Nat) (0 : Nat)))] =
                                      [{ cells := [AV.d (i64 m9), AV.d (Dv.sl (1 : Nat) bs10)] }, bq (Prod.fst x11) (Prod.snd x11),
                                        cell (Dv.s (Value.slice none (0 : Nat) (0 : Nat)))] ∧
                                    List.length l8 ≤ (1000000 : Nat) ∧
                                      R (AV.tup [AV.d (Dv.sl (2 : Nat) (rowsR (List.map keepR l8))), AV.d (bo false), AV.d (i64 (0 : Int))]) b)
                        (BIf (Prod.fst x6 == (0 : Int))
                          (R (AV.tup [AV.d (Dv.s (Value.slice none (0 : Nat) (0 : Nat))), AV.d (bo false), AV.d (i64 (12 : Int))]) b)
                          (∃ xs12,
                            [AV.d (Dv.sl (2 : Nat) xs)] = [AV.d (Dv.sl (2 : Nat) xs12)] ∧
                              ∃ l13 m14 bs15 e16 s17,
                                rf12b = rf12b ∧
                                  [AV.bad, AV.bad, AV.bad, AV.bad, AV.bad, AV.bad, AV.bad, AV.ptr (1 : Nat) (0 : Nat), AV.bad, AV.bad, AV.bad,
                                        AV.ptr (2 : Nat) (0 : Nat), AV.ptr (3 : Nat) (0 : Nat), AV.bad, AV.bad, AV.bad, AV.bad, AV.bad, AV.bad, AV.bad, AV.bad,
                                        AV.bad, AV.bad, AV.bad, AV.bad, AV.bad, AV.bad, AV.bad, AV.bad, AV.bad, AV.bad, AV.bad, AV.bad, AV.bad, AV.bad, AV.bad,
                                        AV.bad, AV.bad, AV.bad, AV.bad, AV.bad, AV.bad, AV.bad, AV.bad, AV.bad, AV.bad, AV.bad, AV.bad,
                                        AV.fn (Fn.func (61 : Nat)) [] [AV.rptr [Dv.sl (2 : Nat) xs12]], AV.bad, AV.bad, AV.bad, AV.bad, AV.bad, AV.bad, AV.bad,
                                        AV.bad, AV.bad, AV.bad, AV.bad, AV.bad, AV.bad, AV.bad, AV.bad, AV.bad, AV.bad, AV.bad, AV.bad, AV.bad, AV.bad, AV.bad,
                                        AV.bad, AV.bad, AV.bad, AV.bad, AV.bad, AV.bad, AV.bad, AV.bad, AV.bad, AV.bad, AV.bad, AV.bad, AV.bad, AV.bad, AV.bad,
                                        AV.bad, AV.bad, AV.bad, AV.bad, AV.bad, AV.bad, AV.bad, AV.bad, AV.bad] =
                                      [AV.bad, AV.bad, AV.bad, AV.bad, AV.bad, AV.bad, AV.bad, AV.ptr (1 : Nat) (0 : Nat), AV.bad, AV.bad, AV.bad,
                                        AV.ptr (2 : Nat) (0 : Nat), AV.ptr (3 : Nat) (0 : Nat), AV.bad, AV.bad, AV.bad, AV.bad, AV.bad, AV.bad, AV.bad, AV.bad,
                                        AV.bad, AV.bad, AV.bad, AV.bad, AV.bad, AV.bad, AV.bad, AV.bad, AV.bad, AV.bad, AV.bad, AV.bad, AV.bad, AV.bad, AV.bad,
                                        AV.bad, AV.bad, AV.bad, AV.bad, AV.bad, AV.bad, AV.bad, AV.bad, AV.bad, AV.bad, AV.bad, AV.bad,
                                        AV.fn (Fn.func (61 : Nat)) [] [AV.rptr [Dv.sl (2 : Nat) (rowsR l13)]], AV.bad, AV.bad, AV.bad, AV.bad, AV.bad, AV.bad,
                                        AV.bad, AV.bad, AV.bad, AV.bad, AV.bad, AV.bad, AV.bad, AV.bad, AV.bad, AV.bad, AV.bad, AV.bad, AV.bad, AV.bad, AV.bad,
                                        AV.bad, AV.bad, AV.bad, AV.bad, AV.bad, AV.bad, AV.bad, AV.bad, AV.bad, AV.bad, AV.bad, AV.bad, AV.bad, AV.bad, AV.bad,
                                        AV.bad, AV.bad, AV.bad, AV.bad, AV.bad, AV.bad, AV.bad, AV.bad, AV.bad, AV.bad] ∧
                                    [{ cells := [AV.d (i64 m), AV.d (Dv.sl (1 : Nat) (bytesR p))] }, bq (Prod.fst x6) (Prod.snd x6),
                                          cell (Dv.s (Value.slice none (0 : Nat) (0 : Nat))), cell (bo false)] =
                                        [{ cells := [AV.d (i64 m14), AV.d (Dv.sl (1 : Nat) bs15)] }, bq (Prod.fst e16) (Prod.snd e16),
                                          cell (Dv.s (Value.slice none (0 : Nat) (0 : Nat))), cell (bo false)] ∧
                                      (((1 : Int) ≤ Prod.fst e16 ∧ Prod.fst e16 < (65536 : Int)) ∧
                                          (∀ (r : Row), r ∈ l13 → (1 : Int) ≤ Prod.fst r ∧ Prod.fst r < (65536 : Int)) ∧
                                            (2 : Nat) * List.length l13 ≤ (1000000 : Nat)) ∧
                                        s17 = List.foldl (stepB e16) ([], false) l13 ∧
                                          BIf (!Prod.snd s17)
                                            (∃ m18 p19 q20,
                                              [eqA (Prod.fst e16) (Prod.snd e16)] = [eqA m18 p19] ∧
                                                q20 = bytesR (b16 p19) ∧
                                                  BIf (true && decide ((List.length (rowsR (Prod.fst s17)) + (1 : Nat)) * (32 : Nat) ≤ (140737488355328 : Nat)))
                                                    (R
                                                      (AV.tup
                                                        [AV.d (Dv.sl (2 : Nat) (rowsR (Prod.fst s17) ++ [[i64 m18, Dv.sl (1 : Nat) q20]])), AV.d (bo true),
                                                          AV.d (i64 (0 : Int))])
                                                      b)
                                                    False)
                                            (R (AV.tup [AV.d (Dv.sl (2 : Nat) (rowsR (Prod.fst s17))), AV.d (bo true), AV.d (i64 (0 : Int))]) b)))))) := by kernel_rfl
end
end Go.Proofs.YtkjmhfbjdeidjaaDoor.Am

namespace Go.Proofs.YtkjmhfbjdeidjaaDoor.Am
set_option linter.unusedVariables false
open Go Go.RowKit Go.Proofs

/-! ### words on masks -/
theorem ofInt_toNat {a : Int} (h0 : 0 ≤ a) (h1 : a < 18446744073709551616) : (BitVec.ofInt 64 a).toNat = a.toNat := by
  simp [BitVec.toNat_ofInt]; omega
theorem xor64_eq {a b : Int} (h0 : 0 ≤ a) (h1 : a < 65536) (h2 : 0 ≤ b) (h3 : b < 65536) : xor64 a b = ((a.toNat ^^^ b.toNat : Nat) : Int) := by
  unfold xor64
  rw [BitVec.toNat_xor, ofInt_toNat h0 (by omega), ofInt_toNat h2 (by omega)]
  have : a.toNat ^^^ b.toNat < 2 ^ 16 := Nat.xor_lt_two_pow (by omega) (by omega)
  rw [wrap_i64 (by omega) (by omega)]
theorem and64_eq {a b : Int} (h0 : 0 ≤ a) (h1 : a < 65536) (h2 : 0 ≤ b) (h3 : b < 65536) : and64 a b = ((a.toNat &&& b.toNat : Nat) : Int) := by
  unfold and64
  rw [BitVec.toNat_and, ofInt_toNat h0 (by omega), ofInt_toNat h2 (by omega)]
  have : a.toNat &&& b.toNat < 2 ^ 16 := Nat.and_lt_two_pow _ (by omega)
  rw [wrap_i64 (by omega) (by omega)]
theorem or64_eq {a b : Int} (h0 : 0 ≤ a) (h1 : a < 65536) (h2 : 0 ≤ b) (h3 : b < 65536) : or64 a b = ((a.toNat ||| b.toNat : Nat) : Int) := by
  unfold or64
  rw [BitVec.toNat_or, ofInt_toNat h0 (by omega), ofInt_toNat h2 (by omega)]
  have : a.toNat ||| b.toNat < 2 ^ 16 := Nat.or_lt_two_pow (by omega) (by omega)
  rw [wrap_i64 (by omega) (by omega)]
theorem xor64_bd {a b : Int} (h0 : 0 ≤ a) (h1 : a < 65536) (h2 : 0 ≤ b) (h3 : b < 65536) : 0 ≤ xor64 a b ∧ xor64 a b < 65536 := by
  rw [xor64_eq h0 h1 h2 h3]
  have : a.toNat ^^^ b.toNat < 2 ^ 16 := Nat.xor_lt_two_pow (by omega) (by omega)
  omega

theorem red_bd {x r : Row} (hx : 0 ≤ x.1 ∧ x.1 < 65536) (hr : okMask r) : 0 ≤ (red x r).1 ∧ (red x r).1 < 65536 := by
  unfold red
  split
  · exact xor64_bd hx.1 hx.2 (by have := hr.1; omega) hr.2
  · exact hx
theorem foldl_red_bd : ∀ {l : List Row} {x : Row}, 0 ≤ x.1 ∧ x.1 < 65536 → (∀ r ∈ l, okMask r) → 0 ≤ (l.foldl red x).1 ∧ (l.foldl red x).1 < 65536
  | [], x, hx, _ => hx
  | r :: l, x, hx, h => foldl_red_bd (l := l) (x := red x r) (red_bd hx (h r (List.mem_cons_self ..))) fun r' h' => h r' (List.mem_cons_of_mem _ h')

theorem stepB_len (e : Row) : ∀ (l : List Row) (s : List Row × Bool), (l.foldl (stepB e) s).1.length ≤ s.1.length + 2 * l.length
  | [], s => by simp
  | r :: l, s => by
    have h1 := stepB_len e l (stepB e s r)
    have h2 : (stepB e s r).1.length ≤ s.1.length + 2 := by
      simp only [stepB]; split <;> simp
    simp only [List.foldl_cons, List.length_cons]; omega

/-! ### Add -/
def zero16 (p : List Int) : Bool := (List.range 16).all fun i => nth p i == 0
def addR (x : List Row × Bool × Int) : AV := .tup [.d (.sl 2 (rowsR x.1)), .d (bo x.2.1), .d (i64 x.2.2)]
def addS (l : List Row) (m : Int) (b : List Int) : List Row × Bool × Int :=
  if !validS l || !fine m b then ([], false, 1) else
  let x := l.foldl red (m, pad b)
  if x.1 == 0 && zero16 x.2 then (l.map keepR, false, 0) else if x.1 == 0 then ([], false, 12) else
  let s := l.foldl (stepB x) ([], false)
  (if !s.2 then s.1 ++ [(x.1, b16 x.2)] else s.1, true, 0)

theorem nilTup (a b : AV) : LeT (.tup [.d (.s (.slice none 0 0)), a, b]) (.tup [.d (.sl 2 (rowsR [])), a, b]) := .tup (.cons (LeA.nilSl rfl) (LeL.refl _))

theorem pc12 (l : List Row) (m : Int) (b : List Int) (hl : 2 * l.length ≤ 1000000) : PCall Tryd.prog 34 [.d (.sl 2 (rowsR l)), rowA m b] (addR (addS l m b)) := by
  refine PCall.ofFnL (n := 100) (u := false) (fun _ => wl12) mixed TS_ok SCallsOk.nil (fun Ev => wl12_ok) Tryd.func34 (by rfl) (by rfl) fun Ev bb => ?_
  rw [f12_nf]
  refine ⟨m, b, rfl, l, rfl, by omega, BIf.of (fun h1 => ?_) fun h1 => BIf.of (fun h2 => ?_) fun h2 => ?_⟩
  · rw [show addS l m b = ([], false, 1) by simp only [addS, h1, Bool.true_or, if_true]]; exact nilTup _ _
  · rw [show addS l m b = ([], false, 1) by simp only [addS, h2, Bool.or_true, if_true]]; exact nilTup _ _
  · have hv : validS l = true := by simpa using h1
    have hok : ∀ r ∈ l, okMask r := by
      simp only [validS, Bool.and_eq_true] at hv
      exact fun r hr => fine_ok (vA_ok hv.1 r hr)
    have hf : fine m b = true := by simpa using h2
    have hm : 0 ≤ m ∧ m < 65536 := by
      have := fine_ok (r := (m, b)) hf
      exact ⟨by have := this.1; omega, this.2⟩
    have hx := foldl_red_bd (l := l) (x := (m, pad b)) hm hok
    refine ⟨l, m, pad b, _, rfl, ⟨hok, by omega⟩, rfl, ?_⟩
    show BIf ((l.foldl red (m, pad b)).1 == 0 && (zero16 (l.foldl red (m, pad b)).2 && true)) _ _
    have e0 : addS l m b = (let x := l.foldl red (m, pad b)
        if x.1 == 0 && zero16 x.2 then (l.map keepR, false, 0) else if x.1 == 0 then ([], false, 12) else
        let s := l.foldl (stepB x) ([], false)
        (if !s.2 then s.1 ++ [(x.1, b16 x.2)] else s.1, true, 0)) := by
      simp only [addS, h1, h2, Bool.or_false, Bool.false_eq_true, if_false]
    rw [e0]
    generalize l.foldl red (m, pad b) = x at hx
    refine BIf.of (fun h3 => ?_) fun h3 => BIf.of (fun h4 => ?_) fun h4 => ?_
    · rw [Bool.and_true] at h3
      refine ⟨_, rfl, l, _, _, x, rfl, rfl, rfl, by omega, ?_⟩
      simp only [h3, if_true]
      exact .rfl
    · rw [Bool.and_true] at h3
      show LeT _ (addR (if (x.1 == 0 && zero16 x.2) = true then _ else _))
      rw [h3, if_neg (by simp), if_pos h4]
      exact nilTup _ _
    · rw [Bool.and_true] at h3
      have hne : x.1 ≠ 0 := by simpa using h4
      have hxo : okMask x := ⟨by omega, hx.2⟩
      refine ⟨_, rfl, l, _, _, x, _, rfl, rfl, rfl, ⟨hxo, hok, hl⟩, rfl, ?_⟩
      have hlen := stepB_len x l ([], false)
      simp only [h3, h4, Bool.false_eq_true, if_false]
      generalize l.foldl (stepB x) ([], false) = s at hlen
      simp only [List.length_nil] at hlen
      refine BIf.of (fun h5 => ?_) fun h5 => ?_
      · refine ⟨_, _, _, rfl, rfl, BIf.t (tt32 (by rw [rowsR_len]; omega)) ?_⟩
        rw [rowsR_snoc]
        simp only [h5, if_true]
        exact .rfl
      · simp only [h5, Bool.false_eq_true, if_false]
        exact .rfl
def c12 (args : List AV) (K : AV → Prop) : Prop := ∃ (l : List Row) (m : Int) (b : List Int) (x : List Row × Bool × Int), args = [.d (.sl 2 (rowsR l)), rowA m b] ∧ 2 * l.length ≤ 1000000 ∧ x = addS l m b ∧ K (addR x)
theorem c12_ok : ∀ args K, c12 args K → ∃ x, PCall Tryd.prog 34 args x ∧ K x := by
  rintro _ K ⟨l, m, b, _, rfl, h1, rfl, h⟩; exact ⟨_, pc12 l m b h1, h⟩

end Go.Proofs.YtkjmhfbjdeidjaaDoor.Am

namespace Go.Proofs.YtkjmhfbjdeidjaaDoor.Am
set_option linter.unusedVariables false
open Go Go.RowKit Go.Proofs

/-! ### Sum -/
def bytesB (x : List Int × Bool) : AV := .tup [.d (.sl 1 (bytesR x.1)), .d (bo x.2)]
theorem nilTup1 (a : AV) : LeT (.tup [.d (.s (.slice none 0 0)), a]) (.tup [.d (.sl 1 (bytesR [])), a]) := .tup (.cons (LeA.nilSl rfl) (LeL.refl _))
def sumS (l : List Row) (m : Int) : List Int × Bool :=
  if decide (m < 0) || (decide (m ≥ 65536) || !validS l) then ([], false) else
  let x := l.foldl red (m, [])
  if x.1 != 0 then ([], false) else (b16 x.2, true)

noncomputable def rf14 : Code := sub [1, 8, 1, 1, 1, 0, 1, 2] (code Tryd.f37)
theorem rf14_shape : rf14 = .rangeFunc (.tmp 20) #[21, 22] (assignOf rf14) (bodyOf rf14) := by kernel_rfl
def tm14 (xs : List (List Dv)) : List AV := [.bad, .bad, .bad, .ptr 0 0, .bad, .bad, .ptr 1 0] ++ List.replicate 13 .bad ++ [.fn (.func 61) [] [.rptr [.sl 2 xs]]] ++ List.replicate 13 .bad

section
variable {β : Type} (wl : WLT β) (y : YieldT β) (b : β) (R : AV → β → Prop) (Kh : Exit → List Blk → β → Prop)
theorem f14_round (xs : List (List Dv)) (m i : Int) (p : List Int) (f : Bool) (v : Dv) : wpcY Tryd.prog ⟨TS, [], wl, y, false⟩ 100 #[21, 22] (assignOf rf14) (bodyOf rf14) (tm14 xs) [eqA m p, .d (bo f)] [cell (i64 i), cell v] b (takeK 2 Kh) = (
  BIf (decide (i < (0 : Int))) False
  (BIf (m == IntKind.wrap IntKind.i64 ((1 : Int) * (2 : Int) ^ min (Int.toNat i) (64 : Nat)))
    (∃ m0 p1 q2, [eqA m p] = [eqA m0 p1] ∧ q2 = bytesR (b16 p1) ∧ Kh (Exit.exit (0 : Nat)) [cell (i64 i), cell (Dv.sl (1 : Nat) q2)] b)
    (Kh Exit.normal [cell (i64 i), cell v] b))) := by kernel_rfl
end

/-! ### Solved -/
def bit (i : Int) : Int := IntKind.wrap .i64 (1 * 2 ^ min i.toNat 64)
def findS (l : List Row) (i : Int) : Option Row := l.find? fun r => r.1 == bit i
def foundS (l : List Row) (i : Int) : List Int := match findS l i with
  | some r => b16 (pad r.2)
  | none => []
def solvedS (l : List Row) (i : Int) : List Int × Bool :=
  if decide (i < 0) || (decide (i ≥ 16) || !validS l) then ([], false) else
  if (findS l i).isSome then (foundS l i, true) else ([], false)

def wl14 {β : Type} : WLT β := fun c tm hp b K => ∃ (l : List Row) (i : Int), c = rf14 ∧ maskTm [3, 6, 20] 0 tm = tm14 (rowsR l) ∧ hp = [cell (i64 i), cell (.s (.slice none 0 0))] ∧ (0 ≤ i ∧ l.length ≤ 9223372036854775807) ∧
  BIf (findS l i).isSome (∃ q, q = foundS l i ∧ K (.exit 0) (tm14 (rowsR l)) [cell (i64 i), cell (.sl 1 (bytesR (b16 q)))] b) (K .normal (tm14 (rowsR l)) [cell (i64 i), cell (.s (.slice none 0 0))] b)

theorem range14 {Ev : Env Tryd.prog} {b : Ev.β} {Q : Exit → St Ev.β → Prop} (xs : List (List Dv)) (i : Int) (hi : 0 ≤ i) : ∀ (l : List Row),
    BIf (findS l i).isSome (Q (.exit 0) ⟨tm14 xs, [cell (i64 i), cell (.sl 1 (bytesR (b16 (foundS l i))))], b⟩) (Q .normal ⟨tm14 xs, [cell (i64 i), cell (.s (.slice none 0 0))], b⟩) →
    YList (YBody Ev (tm14 xs) #[21, 22] (assignOf rf14) (bodyOf rf14) 2) (l.map item) ([cell (i64 i), cell (.s (.slice none 0 0))], b, none) (rangeQ (tm14 xs) Q)
  | [], h => h
  | r :: l, h => by
    refine YList.step (X := ⟨TS, [], wlW Ev, Ev.Y, false⟩) (k := 100) mixed (CX.Ok.of TS_ok SCallsOk.nil) rfl ?_
    show wpcY _ _ _ _ _ _ _ [eqA _ _, .d (bo _)] [cell (i64 _), cell _] b (takeK 2 _)
    rw [f14_round]
    refine BIf.f (by simpa using hi) (BIf.of (fun hc => ⟨_, _, _, rfl, rfl, ?_⟩) fun hc => ?_)
    · change (r.1 == bit i) = true at hc
      have e1 : findS (r :: l) i = some r := by simp only [findS, List.find?_cons, hc]
      have e2 : foundS (r :: l) i = b16 (pad r.2) := by simp only [foundS, e1]
      rw [e1, e2] at h
      exact h
    · change (r.1 == bit i) = false at hc
      have e1 : findS (r :: l) i = findS l i := by simp only [findS, List.find?_cons, hc]
      have e2 : foundS (r :: l) i = foundS l i := by simp only [foundS, e1]
      rw [e1, e2] at h
      exact range14 xs i hi l h

theorem wl14_ok {Ev : Env Tryd.prog} (c : Code) (tm : List AV) (hp : List Blk) (b : Ev.β) (K : Exit → List AV → List Blk → Ev.β → Prop) (h : wl14 c tm hp b K) : W Ev c ⟨tm, hp, b⟩ (fun e s => K e s.tm s.hp s.b) := by
  obtain ⟨l, i, rfl, htm, rfl, ⟨hi, hpre⟩, hK⟩ := h
  refine W.cast (htm ▸ maskTm_le _ tm 0) (LeH.refl _) ?_
  rw [rf14_shape]
  exact W.range (s := ⟨tm14 (rowsR l), _, b⟩) (k := 61) (first := []) (caps := [.rptr [.sl 2 (rowsR l)]]) rfl rfl rfl (ic38 l hpre) (range14 (rowsR l) i hi l (hK.elim.elim (fun h => BIf.t h.1 (by obtain ⟨q, rfl, h⟩ := h.2; exact h)) fun h => BIf.f h.1 h.2))

section
variable {β : Type} (wl : WLT β) (y : YieldT β) (b : β) (R : AV → β → Prop)
theorem f14_nf (xs : List (List Dv)) (i : Int) : wpFn Tryd.prog ⟨TS, [], wl14, y, false⟩ 100 Tryd.f37 [.d (.sl 2 xs), .d (i64 i)] b R = (
  BIf (decide (i < (0 : Int))) (R (AV.tup [AV.d (Dv.s (Value.slice none (0 : Nat) (0 : Nat))), AV.d (bo false)]) b)
  (BIf (decide (i ≥ (16 : Int))) (R (AV.tup [AV.d (Dv.s (Value.slice none (0 : Nat) (0 : Nat))), AV.d (bo false)]) b)
    (∃ l0,
      [AV.d (Dv.sl (2 : Nat) xs)] = [AV.d (Dv.sl (2 : Nat) (rowsR l0))] ∧
        List.length l0 ≤ (9223372036854775807 : Nat) ∧
          BIf (!validS l0) (R (AV.tup [AV.d (Dv.s (Value.slice none (0 : Nat) (0 : Nat))), AV.d (bo false)]) b)
            (∃ xs1,
              [AV.d (Dv.sl (2 : Nat) xs)] = [AV.d (Dv.sl (2 : Nat) xs1)] ∧
                ∃ l2 i3,
                  rf14 = rf14 ∧
                    [AV.bad, AV.bad, AV.bad, AV.ptr (0 : Nat) (0 : Nat), AV.bad, AV.bad, AV.ptr (1 : Nat) (0 : Nat), AV.bad, AV.bad, AV.bad, AV.bad, AV.bad,
                          AV.bad, AV.bad, AV.bad, AV.bad, AV.bad, AV.bad, AV.bad, AV.bad, AV.fn (Fn.func (61 : Nat)) [] [AV.rptr [Dv.sl (2 : Nat) xs1]], AV.bad,
                          AV.bad, AV.bad, AV.bad, AV.bad, AV.bad, AV.bad, AV.bad, AV.bad, AV.bad, AV.bad, AV.bad, AV.bad] =
                        [AV.bad, AV.bad, AV.bad, AV.ptr (0 : Nat) (0 : Nat), AV.bad, AV.bad, AV.ptr (1 : Nat) (0 : Nat), AV.bad, AV.bad, AV.bad, AV.bad, AV.bad,
                          AV.bad, AV.bad, AV.bad, AV.bad, AV.bad, AV.bad, AV.bad, AV.bad, AV.fn (Fn.func (61 : Nat)) [] [AV.rptr [Dv.sl (2 : Nat) (rowsR l2)]],
                          AV.bad, AV.bad, AV.bad, AV.bad, AV.bad, AV.bad, AV.bad, AV.bad, AV.bad, AV.bad, AV.bad, AV.bad, AV.bad] ∧
                      [cell (i64 i), cell (Dv.s (Value.slice none (0 : Nat) (0 : Nat)))] = [cell (i64 i3), cell (Dv.s (Value.slice none (0 : Nat) (0 : Nat)))] ∧
                        ((0 : Int) ≤ i3 ∧ List.length l2 ≤ (9223372036854775807 : Nat)) ∧
                          BIf (Option.isSome (findS l2 i3)) (∃ q4, q4 = foundS l2 i3 ∧ R (AV.tup [AV.d (Dv.sl (1 : Nat) (bytesR (b16 q4))), AV.d (bo true)]) b)
                            (R (AV.tup [AV.d (Dv.s (Value.slice none (0 : Nat) (0 : Nat))), AV.d (bo false)]) b))))) := by kernel_rfl
end

theorem pc14 (l : List Row) (i : Int) (hl : l.length ≤ 9223372036854775807) : PCall Tryd.prog 37 [.d (.sl 2 (rowsR l)), .d (i64 i)] (bytesB (solvedS l i)) := by
  refine PCall.ofFnL (n := 100) (u := false) (fun _ => wl14) mixed TS_ok SCallsOk.nil (fun Ev => wl14_ok) Tryd.func37 (by rfl) (by rfl) fun Ev bb => ?_
  rw [f14_nf]
  refine BIf.of (fun h1 => ?_) fun h1 => BIf.of (fun h2 => ?_) fun h2 => ⟨l, rfl, hl, BIf.of (fun h3 => ?_) fun h3 => ?_⟩
  · rw [show solvedS l i = ([], false) by simp only [solvedS, h1, Bool.true_or, if_true]]; exact nilTup1 _
  · rw [show solvedS l i = ([], false) by simp only [solvedS, h2, Bool.true_or, Bool.or_true, if_true]]; exact nilTup1 _
  · rw [show solvedS l i = ([], false) by simp only [solvedS, h3, Bool.or_true, if_true]]; exact nilTup1 _
  · have e0 : solvedS l i = if (findS l i).isSome then (foundS l i, true) else ([], false) := by
      simp only [solvedS, h1, h2, h3, Bool.or_false, Bool.false_eq_true, if_false]
    rw [e0]
    refine ⟨_, rfl, l, i, rfl, rfl, rfl, ⟨by simpa using h1, hl⟩, BIf.of (fun h4 => ?_) fun h4 => ?_⟩
    · rw [if_pos h4]
      refine ⟨_, rfl, ?_⟩
      have : b16 (foundS l i) = foundS l i := by
        obtain ⟨r, hr⟩ := Option.isSome_iff_exists.1 h4
        simp only [foundS, hr]; rfl
      rw [this]; exact .rfl
    · rw [if_neg (by simp [h4])]
      exact nilTup1 _
def c14 (args : List AV) (K : AV → Prop) : Prop := ∃ (l : List Row) (m : Int) (x : List Int × Bool), args = [.d (.sl 2 (rowsR l)), .d (i64 m)] ∧ l.length ≤ 9223372036854775807 ∧ x = solvedS l m ∧ K (bytesB x)
theorem c14_ok : ∀ args K, c14 args K → ∃ x, PCall Tryd.prog 37 args x ∧ K x := by
  rintro _ K ⟨l, m, _, rfl, h1, rfl, h⟩; exact ⟨_, pc14 l m h1, h⟩
end Go.Proofs.YtkjmhfbjdeidjaaDoor.Am

namespace Go.Proofs.YtkjmhfbjdeidjaaDoor.Am
set_option linter.unusedVariables false
open Go Go.RowKit Go.Proofs

noncomputable def lp37 : Code := sub [1, 1, 0, 2, 3] (code Tryd.f56)
noncomputable def lp11 : Code := sub [1, 0, 1, 2, 3] (code Tryd.f11)
noncomputable def lp19 : Code := sub [1, 1, 0, 1, 2, 3] (code Tryd.f22)
noncomputable def lp18 : Code := sub [1, 1, 0, 1, 2, 3] (code Tryd.f21)
def tm37 (m k : Int) : List AV := [.d (i64 m), .bad, .bad, .d (i64 k)] ++ List.replicate 7 .bad
def tm11 (xs : List (List Dv)) (i : Int) : List AV := [.d (.sl 2 xs), .bad, .bad, .d (i64 i)] ++ List.replicate 16 .bad
def tm19 (xs ys : List (List Dv)) (i : Int) : List AV := [.d (.sl 1 xs), .d (.sl 1 ys), .bad, .bad, .bad, .d (i64 i)] ++ List.replicate 20 .bad
def tm18 (xs ys : List (List Dv)) (i : Int) : List AV := [.d (.sl 2 xs), .d (.sl 2 ys), .bad, .bad, .bad, .d (i64 i)] ++ List.replicate 36 .bad

section
variable {β : Type} (wl : WLT β) (y : YieldT β) (b : β) (R : AV → β → Prop) (K : Exit → List AV → List Blk → β → Prop)
theorem f37_round (m k : Int) : wpc Tryd.prog ⟨[], [], wl, y, false⟩ 100 lp37 (tm37 m k) [] b (maskK 0 [0, 3] K) = (
  BIf (decide (IntKind.wrap IntKind.i64 (k * (2 : Int)) ≤ m))
  (K Exit.normal [AV.d (i64 m), AV.bad, AV.bad, AV.d (i64 (IntKind.wrap IntKind.i64 (k * (2 : Int)))), AV.bad, AV.bad, AV.bad, AV.bad, AV.bad, AV.bad, AV.bad]
    [] b)
  (K (Exit.exit (0 : Nat)) [AV.d (i64 m), AV.bad, AV.bad, AV.d (i64 k), AV.bad, AV.bad, AV.bad, AV.bad, AV.bad, AV.bad, AV.bad] [] b)) := by kernel_rfl
theorem f11_round (xs : List (List Dv)) (i : Int) : wpc Tryd.prog ⟨[], [], wl, y, false⟩ 100 lp11 (tm11 xs i) [] b (maskK 0 [0, 2, 3] K) = (
  BIf (decide (i < ↑(List.length xs)))
  (BIf (true && decide ((0 : Int) ≤ i))
    (∃ x0 xs1,
      xs[Int.toNat i]? = some [i64 x0, Dv.sl (1 : Nat) xs1] ∧
        BIf (decide (↑(List.length xs1) > (100 : Int)))
          (K Exit.ret
            [AV.d (Dv.sl (2 : Nat) xs), AV.bad, AV.d (bo false), AV.d (i64 i), AV.bad, AV.bad, AV.bad, AV.bad, AV.bad, AV.bad, AV.bad, AV.bad, AV.bad, AV.bad,
              AV.bad, AV.bad, AV.bad, AV.bad, AV.bad, AV.bad]
            [] b)
          (K Exit.normal
            [AV.d (Dv.sl (2 : Nat) xs), AV.bad, AV.bad, AV.d (i64 (IntKind.wrap IntKind.i64 (i + (1 : Int)))), AV.bad, AV.bad, AV.bad, AV.bad, AV.bad, AV.bad,
              AV.bad, AV.bad, AV.bad, AV.bad, AV.bad, AV.bad, AV.bad, AV.bad, AV.bad, AV.bad]
            [] b))
    False)
  (K (Exit.exit (0 : Nat))
    [AV.d (Dv.sl (2 : Nat) xs), AV.bad, AV.bad, AV.d (i64 i), AV.bad, AV.bad, AV.bad, AV.bad, AV.bad, AV.bad, AV.bad, AV.bad, AV.bad, AV.bad, AV.bad, AV.bad,
      AV.bad, AV.bad, AV.bad, AV.bad]
    [] b)) := by kernel_rfl
theorem f19_round (xs ys : List (List Dv)) (i : Int) : wpc Tryd.prog ⟨[], [], wl, y, false⟩ 100 lp19 (tm19 xs ys i) [] b (maskK 0 [0, 1, 4, 5] K) = (
  BIf (decide (i < ↑(List.length xs)))
  (BIf (true && decide ((0 : Int) ≤ i))
    (∃ x0,
      xs[Int.toNat i]? = some [u8 x0] ∧
        BIf (true && decide ((0 : Int) ≤ i))
          (∃ x3,
            ys[Int.toNat i]? = some [u8 x3] ∧
              BIf (x0 != x3)
                (K Exit.ret
                  [AV.d (Dv.sl (1 : Nat) xs), AV.d (Dv.sl (1 : Nat) ys), AV.bad, AV.bad, AV.d (bo false), AV.d (i64 i), AV.bad, AV.bad, AV.bad, AV.bad, AV.bad,
                    AV.bad, AV.bad, AV.bad, AV.bad, AV.bad, AV.bad, AV.bad, AV.bad, AV.bad, AV.bad, AV.bad, AV.bad, AV.bad, AV.bad, AV.bad]
                  [] b)
                (K Exit.normal
                  [AV.d (Dv.sl (1 : Nat) xs), AV.d (Dv.sl (1 : Nat) ys), AV.bad, AV.bad, AV.bad, AV.d (i64 (IntKind.wrap IntKind.i64 (i + (1 : Int)))), AV.bad,
                    AV.bad, AV.bad, AV.bad, AV.bad, AV.bad, AV.bad, AV.bad, AV.bad, AV.bad, AV.bad, AV.bad, AV.bad, AV.bad, AV.bad, AV.bad, AV.bad, AV.bad,
                    AV.bad, AV.bad]
                  [] b))
          False)
    False)
  (K (Exit.exit (0 : Nat))
    [AV.d (Dv.sl (1 : Nat) xs), AV.d (Dv.sl (1 : Nat) ys), AV.bad, AV.bad, AV.bad, AV.d (i64 i), AV.bad, AV.bad, AV.bad, AV.bad, AV.bad, AV.bad, AV.bad, AV.bad,
      AV.bad, AV.bad, AV.bad, AV.bad, AV.bad, AV.bad, AV.bad, AV.bad, AV.bad, AV.bad, AV.bad, AV.bad]
    [] b)) := by kernel_rfl
end
end Go.Proofs.YtkjmhfbjdeidjaaDoor.Am

namespace Go.Proofs.YtkjmhfbjdeidjaaDoor.Am
set_option linter.unusedVariables false
open Go Go.RowKit Go.Proofs

theorem drop_cons {α : Type} {l rest : List α} {r : α} {k : Nat} (hd : l.drop k = r :: rest) : k < l.length ∧ l[k]? = some r ∧ l.drop (k + 1) = rest := by
  refine ⟨?_, ?_, ?_⟩
  · rcases Nat.lt_or_ge k l.length with h | h
    · exact h
    · rw [List.drop_eq_nil_of_le h] at hd; cases hd
  · have := congrArg (fun x => x[0]?) hd
    simpa using this
  · have := congrArg List.tail hd
    simpa using this
theorem drop_nil {α : Type} {l : List α} {k : Nat} (hd : l.drop k = []) : l.length ≤ k := List.drop_eq_nil_iff.1 hd
theorem wrap_succ {n k : Nat} (h : k < n) (hn : n ≤ 9223372036854775807) : IntKind.wrap .i64 ((k : Int) + 1) = ((k + 1 : Nat) : Int) := by
  rw [wrap_i64 (by omega) (by omega)]; simp

theorem bif_f {t : Bool} {A B : Prop} (h : BIf t A B) (ht : t = false) : B := by subst ht; exact h
theorem bif_t {t : Bool} {A B : Prop} (h : BIf t A B) (ht : t = true) : A := by subst ht; exact h

/-! ### Leading -/
theorem wr37 {Ev : Env Tryd.prog} {b : Ev.β} {Q : Exit → St Ev.β → Prop} (m : Int) (h0 : 1 ≤ m) (h1 : m < 4611686018427387904) (hQ : Q (.exit 0) ⟨tm37 m (lead m), [], b⟩) : ∀ (n j : Nat), j + n = m.toNat.log2 →
    WR Ev lp37 (n + 1) ⟨tm37 m ((2 ^ j : Nat) : Int), [], b⟩ Q := by
  intro n
  have hn : m.toNat ≠ 0 := by omega
  obtain ⟨b1, b2⟩ := log2_bounds hn
  have hl : m.toNat.log2 < 62 := (Nat.log2_lt hn).2 (by omega)
  induction n with
  | zero =>
    intro j hj
    refine WR.ofMask [0, 3] mixed (CX.Ok.of (u := false) CallsOk.nil SCallsOk.nil) (k := 100) ?_
    show wpc _ _ _ _ _ _ _ (maskK 0 _ _)
    rw [f37_round]
    have hj' : j = m.toNat.log2 := by omega
    subst hj'
    rw [Nat.pow_succ] at b2
    generalize hz : 2 ^ m.toNat.log2 = z at b1 b2
    rw [wrap_i64 (by omega) (by omega)]
    refine BIf.f (by simp; omega) ?_
    have : ((z : Nat) : Int) = lead m := by unfold lead; rw [hz]
    rw [this]; exact hQ
  | succ n ih =>
    intro j hj
    refine WR.ofMask [0, 3] mixed (CX.Ok.of (u := false) CallsOk.nil SCallsOk.nil) (k := 100) ?_
    show wpc _ _ _ _ _ _ _ (maskK 0 _ _)
    rw [f37_round]
    have hle : 2 ^ (j + 1) ≤ 2 ^ m.toNat.log2 := Nat.pow_le_pow_right (by omega) (by omega)
    have e : ((2 ^ j : Nat) : Int) * 2 = ((2 ^ (j + 1) : Nat) : Int) := by rw [Nat.pow_succ]; simp
    rw [e]
    have hz := ih (j + 1) (by omega)
    generalize 2 ^ (j + 1) = z at hle hz
    rw [wrap_i64 (by omega) (by omega)]
    exact BIf.t (by simp; omega) hz

def wl37 {β : Type} : WLT β := fun c tm hp b K => ∃ (m : Int), c = .loop lp37 ∧ maskTm [0, 3] 0 tm = tm37 m 1 ∧ hp = [] ∧ (1 ≤ m ∧ m < 4611686018427387904) ∧ K (.exit 0) (tm37 m (lead m)) [] b
theorem wl37_ok {Ev : Env Tryd.prog} (c : Code) (tm : List AV) (hp : List Blk) (b : Ev.β) (K : Exit → List AV → List Blk → Ev.β → Prop) (h : wl37 c tm hp b K) : W Ev c ⟨tm, hp, b⟩ (fun e s => K e s.tm s.hp s.b) := by
  obtain ⟨m, rfl, htm, rfl, ⟨h0, h1⟩, hK⟩ := h
  refine W.cast (htm ▸ maskTm_le _ tm 0) (LeH.refl _) ?_
  exact W.rounds (wr37 m h0 h1 (Q := fun e s => K e s.tm s.hp s.b) hK m.toNat.log2 0 (by omega))
section
variable {β : Type} (wl : WLT β) (y : YieldT β) (b : β) (R : AV → β → Prop)
theorem f37_nf (m : Int) : wpFn Tryd.prog ⟨[], [], wl37, y, false⟩ 100 Tryd.f56 [.d (i64 m)] b R = (
  ∃ m0 : Int, Code.loop lp37 = Code.loop lp37 ∧ tm37 m 1 = tm37 m0 1 ∧ ([] : List Blk) = [] ∧ ((1 : Int) ≤ m0 ∧ m0 < (4611686018427387904 : Int)) ∧ R (AV.d (i64 (lead m0))) b) := by kernel_rfl
end
theorem pc37 (m : Int) (h0 : 1 ≤ m) (h1 : m < 4611686018427387904) : PCall Tryd.prog 56 [.d (i64 m)] (.d (i64 (lead m))) := by
  refine PCall.ofFnW (n := 100) (u := false) (fun _ => wl37) mixed CallsOk.nil SCallsOk.nil (fun Ev => wl37_ok) Tryd.func56 (by rfl) (by rfl) fun Ev bb => ?_
  rw [f37_nf]
  exact ⟨m, rfl, rfl, rfl, ⟨h0, h1⟩, rfl⟩
def c37 (args : List AV) (K : AV → Prop) : Prop := ∃ (m : Int), args = [.d (i64 m)] ∧ (1 ≤ m ∧ m < 4611686018427387904) ∧ K (.d (i64 (lead m)))
theorem c37_ok : ∀ args K, c37 args K → ∃ x, PCall Tryd.prog 56 args x ∧ K x := by
  rintro _ K ⟨m, rfl, ⟨h0, h1⟩, h⟩; exact ⟨_, pc37 m h0 h1, h⟩

/-! ### Few -/
def fewS (l : List Row) : Bool := (l.all fun r => decide (r.2.length ≤ 100)) && decide (l.length ≤ 40)
def wl11 {β : Type} : WLT β := fun c tm hp b K => ∃ (l : List Row), c = .loop lp11 ∧ maskTm [0, 3] 0 tm = tm11 (rowsR l) 0 ∧ hp = [] ∧ l.length ≤ 9223372036854775807 ∧
  BIf (l.all fun r => decide (r.2.length ≤ 100)) (K (.exit 0) (tm11 (rowsR l) l.length) [] b) (∀ i : Int, K .ret ((tm11 (rowsR l) i).set 2 (.d (bo false))) [] b)
theorem wr11 {Ev : Env Tryd.prog} {b : Ev.β} {Q : Exit → St Ev.β → Prop} (l : List Row) (hl : l.length ≤ 9223372036854775807) : ∀ (rest : List Row) (k : Nat), l.drop k = rest →
    BIf (rest.all fun r => decide (r.2.length ≤ 100)) (Q (.exit 0) ⟨tm11 (rowsR l) l.length, [], b⟩) (∀ i : Int, Q .ret ⟨(tm11 (rowsR l) i).set 2 (.d (bo false)), [], b⟩) →
    k ≤ l.length → WR Ev lp11 (rest.length + 1) ⟨tm11 (rowsR l) k, [], b⟩ Q
  | [], k, hd, hQ, hk => by
    refine WR.ofMask [0, 2, 3] mixed (CX.Ok.of (u := false) CallsOk.nil SCallsOk.nil) (k := 100) ?_
    show wpc _ _ _ _ _ _ _ (maskK 0 _ _)
    rw [f11_round]
    have := drop_nil hd
    have e : k = l.length := by omega
    subst e
    exact BIf.f (by simp [rowsR]) hQ
  | r :: rest, k, hd, hQ, hk => by
    refine WR.ofMask [0, 2, 3] mixed (CX.Ok.of (u := false) CallsOk.nil SCallsOk.nil) (k := 100) ?_
    show wpc _ _ _ _ _ _ _ (maskK 0 _ _)
    rw [f11_round]
    obtain ⟨hk, hr, hd'⟩ := drop_cons hd
    refine BIf.t (by simpa [rowsR] using hk) (BIf.t (by simp) ⟨r.1, bytesR r.2, by simp [rowsR, hr, rowD], BIf.of (fun h => ?_) fun h => ?_⟩)
    · have h : 100 < r.2.length := by simp [bytesR] at h; omega
      refine bif_f hQ ?_ k
      simp only [List.all_cons, Bool.and_eq_false_iff, decide_eq_false_iff_not]
      exact .inl (by omega)
    · have h : r.2.length ≤ 100 := by simp [bytesR] at h; omega
      rw [wrap_succ hk hl]
      refine wr11 l hl rest (k + 1) hd' ?_ hk
      simpa only [List.all_cons, h, decide_true, Bool.true_and] using hQ
theorem wl11_ok {Ev : Env Tryd.prog} (c : Code) (tm : List AV) (hp : List Blk) (b : Ev.β) (K : Exit → List AV → List Blk → Ev.β → Prop) (h : wl11 c tm hp b K) : W Ev c ⟨tm, hp, b⟩ (fun e s => K e s.tm s.hp s.b) := by
  obtain ⟨l, rfl, htm, rfl, h0, hK⟩ := h
  refine W.cast (htm ▸ maskTm_le _ tm 0) (LeH.refl _) ?_
  exact W.rounds (wr11 (Q := fun e s => K e s.tm s.hp s.b) l h0 l 0 rfl hK (Nat.zero_le _))
section
variable {β : Type} (wl : WLT β) (y : YieldT β) (b : β) (R : AV → β → Prop)
theorem f11_nf (xs : List (List Dv)) : wpFn Tryd.prog ⟨[], [], wl11, y, false⟩ 100 Tryd.f11 [.d (.sl 2 xs)] b R = (
  ∃ l : List Row, Code.loop lp11 = Code.loop lp11 ∧ tm11 xs 0 = tm11 (rowsR l) 0 ∧ ([] : List Blk) = [] ∧ l.length ≤ (9223372036854775807 : Nat) ∧
    BIf (l.all fun r => decide (r.2.length ≤ 100)) (R (AV.d (bo (decide ((((rowsR l).length : Nat) : Int) ≤ (40 : Int))))) b) (∀ (i : Int), R (AV.d (bo false)) b)) := by kernel_rfl
end
theorem pc11 (l : List Row) (hl : l.length ≤ 9223372036854775807) : PCall Tryd.prog 11 [.d (.sl 2 (rowsR l))] (.d (bo (fewS l))) := by
  refine PCall.ofFnW (n := 100) (u := false) (fun _ => wl11) mixed CallsOk.nil SCallsOk.nil (fun Ev => wl11_ok) Tryd.func11 (by rfl) (by rfl) fun Ev bb => ?_
  rw [f11_nf]
  refine ⟨l, rfl, rfl, rfl, hl, BIf.of (fun h => ?_) fun h _ => ?_⟩
  · simp only [fewS, h, Bool.true_and]
    congr 3
    simp [rowsR]; omega
  · simp only [fewS, h, Bool.false_and]
def c11 (args : List AV) (K : AV → Prop) : Prop := ∃ (l : List Row), args = [.d (.sl 2 (rowsR l))] ∧ l.length ≤ 9223372036854775807 ∧ K (.d (bo (fewS l)))
theorem c11_ok : ∀ args K, c11 args K → ∃ x, PCall Tryd.prog 11 args x ∧ K x := by
  rintro _ K ⟨l, rfl, h1, h⟩; exact ⟨_, pc11 l h1, h⟩

/-! ### Bytes -/
def wl19 {β : Type} : WLT β := fun c tm hp b K => ∃ (p q : List Int), c = .loop lp19 ∧ maskTm [0, 1, 5] 0 tm = tm19 (bytesR p) (bytesR q) 0 ∧ hp = [] ∧ (p.length ≤ 9223372036854775807 ∧ p.length = q.length) ∧
  BIf (p == q) (K (.exit 0) (tm19 (bytesR p) (bytesR q) p.length) [] b) (∀ i : Int, K .ret ((tm19 (bytesR p) (bytesR q) i).set 4 (.d (bo false))) [] b)
theorem wr19 {Ev : Env Tryd.prog} {b : Ev.β} {Q : Exit → St Ev.β → Prop} (p q : List Int) (hl : p.length ≤ 9223372036854775807) : ∀ (u v : List Int) (k : Nat), p.drop k = u → q.drop k = v → u.length = v.length →
    BIf (u == v) (Q (.exit 0) ⟨tm19 (bytesR p) (bytesR q) p.length, [], b⟩) (∀ i : Int, Q .ret ⟨(tm19 (bytesR p) (bytesR q) i).set 4 (.d (bo false)), [], b⟩) →
    k ≤ p.length → WR Ev lp19 (u.length + 1) ⟨tm19 (bytesR p) (bytesR q) k, [], b⟩ Q
  | [], [], k, hd, _, _, hQ, hk => by
    refine WR.ofMask [0, 1, 4, 5] mixed (CX.Ok.of (u := false) CallsOk.nil SCallsOk.nil) (k := 100) ?_
    show wpc _ _ _ _ _ _ _ (maskK 0 _ _)
    rw [f19_round]
    have := drop_nil hd
    have e : k = p.length := by omega
    subst e
    exact BIf.f (by simp [bytesR]) hQ
  | x :: u, y :: v, k, hd, hd2, hle, hQ, hk => by
    refine WR.ofMask [0, 1, 4, 5] mixed (CX.Ok.of (u := false) CallsOk.nil SCallsOk.nil) (k := 100) ?_
    show wpc _ _ _ _ _ _ _ (maskK 0 _ _)
    rw [f19_round]
    obtain ⟨hk, hr, hd'⟩ := drop_cons hd
    obtain ⟨_, hr2, hd2'⟩ := drop_cons hd2
    refine BIf.t (by simpa [bytesR] using hk) (BIf.t (by simp) ⟨x, by simp [bytesR, hr], BIf.t (by simp) ⟨y, by simp [bytesR, hr2], BIf.of (fun h => ?_) fun h => ?_⟩⟩)
    · have h : x ≠ y := by simpa [bne] using h
      exact bif_f hQ (by simp [h]) k
    · have h : x = y := by simpa [bne] using h
      rw [wrap_succ hk hl]
      refine wr19 p q hl u v (k + 1) hd' hd2' (by simpa using hle) ?_ hk
      subst h
      have e : (x :: u == x :: v) = (u == v) := by simp
      rw [e] at hQ; exact hQ
theorem wl19_ok {Ev : Env Tryd.prog} (c : Code) (tm : List AV) (hp : List Blk) (b : Ev.β) (K : Exit → List AV → List Blk → Ev.β → Prop) (h : wl19 c tm hp b K) : W Ev c ⟨tm, hp, b⟩ (fun e s => K e s.tm s.hp s.b) := by
  obtain ⟨p, q, rfl, htm, rfl, ⟨h0, h1⟩, hK⟩ := h
  refine W.cast (htm ▸ maskTm_le _ tm 0) (LeH.refl _) ?_
  exact W.rounds (wr19 (Q := fun e s => K e s.tm s.hp s.b) p q h0 p q 0 rfl rfl h1 hK (Nat.zero_le _))
section
variable {β : Type} (wl : WLT β) (y : YieldT β) (b : β) (R : AV → β → Prop)
theorem f19_nf (xs ys : List (List Dv)) : wpFn Tryd.prog ⟨[], [], wl19, y, false⟩ 100 Tryd.f22 [.d (.sl 1 xs), .d (.sl 1 ys)] b R = (
  BIf ((xs.length : Int) != (ys.length : Int)) (R (AV.d (bo false)) b)
  (∃ p q : List Int, Code.loop lp19 = Code.loop lp19 ∧ tm19 xs ys 0 = tm19 (bytesR p) (bytesR q) 0 ∧ ([] : List Blk) = [] ∧ (p.length ≤ (9223372036854775807 : Nat) ∧ p.length = q.length) ∧
    BIf (p == q) (R (AV.d (bo true)) b) (∀ (i : Int), R (AV.d (bo false)) b))) := by kernel_rfl
end
theorem pc19 (p q : List Int) (hl : p.length ≤ 9223372036854775807) : PCall Tryd.prog 22 [.d (.sl 1 (bytesR p)), .d (.sl 1 (bytesR q))] (.d (bo (p == q))) := by
  refine PCall.ofFnW (n := 100) (u := false) (fun _ => wl19) mixed CallsOk.nil SCallsOk.nil (fun Ev => wl19_ok) Tryd.func22 (by rfl) (by rfl) fun Ev bb => ?_
  rw [f19_nf]
  refine BIf.of (fun h => ?_) fun h => ⟨p, q, rfl, rfl, rfl, ⟨hl, ?_⟩, BIf.of (fun h => ?_) fun h _ => ?_⟩
  · have : (p == q) = false := by
      simp [bytesR] at h
      simp only [beq_eq_false_iff_ne]
      rintro rfl; exact h rfl
    rw [this]
  · simp [bytesR] at h; omega
  · rw [h]
  · rw [h]
def c19 (args : List AV) (K : AV → Prop) : Prop := ∃ (p q : List Int) (r : Bool), args = [.d (.sl 1 (bytesR p)), .d (.sl 1 (bytesR q))] ∧ p.length ≤ 9223372036854775807 ∧ r = (p == q) ∧ K (.d (bo r))
theorem c19_ok : ∀ args K, c19 args K → ∃ x, PCall Tryd.prog 22 args x ∧ K x := by
  rintro _ K ⟨p, q, _, rfl, h0, rfl, h⟩; exact ⟨_, pc19 p q h0, h⟩

/-! ### Same -/
section
variable {β : Type} (wl : WLT β) (y : YieldT β) (b : β) (R : AV → β → Prop) (K : Exit → List AV → List Blk → β → Prop)
theorem f18_round' (xs ys : List (List Dv)) (i : Int) : wpc Tryd.prog ⟨[(22, c19)], [], wl, y, false⟩ 100 lp18 (tm18 xs ys i) [] b (maskK 0 [0, 1, 4, 5] K) = (
  BIf (decide (i < (xs.length : Int))) (BIf (true && decide ((0 : Int) ≤ i))
    (∃ x0 xs1, xs[Int.toNat i]? = some [i64 x0, Dv.sl (1 : Nat) xs1] ∧ BIf (true && decide ((0 : Int) ≤ i))
      (∃ x4 xs5, ys[Int.toNat i]? = some [i64 x4, Dv.sl (1 : Nat) xs5] ∧ BIf (x0 != x4) (K Exit.ret ((tm18 xs ys i).set 4 (.d (bo false))) [] b)
        (BIf (true && decide ((0 : Int) ≤ i)) (∃ x8 xs9, xs[Int.toNat i]? = some [i64 x8, Dv.sl (1 : Nat) xs9] ∧ BIf (true && decide ((0 : Int) ≤ i))
          (∃ x12 xs13, ys[Int.toNat i]? = some [i64 x12, Dv.sl (1 : Nat) xs13] ∧ ∃ (p q : List Int) (r : Bool), [AV.d (Dv.sl 1 xs9), AV.d (Dv.sl 1 xs13)] = [AV.d (Dv.sl 1 (bytesR p)), AV.d (Dv.sl 1 (bytesR q))] ∧ p.length ≤ 9223372036854775807 ∧ r = (p == q) ∧
            BIf (!r) (K Exit.ret ((tm18 xs ys i).set 4 (.d (bo false))) [] b) (K Exit.normal (tm18 xs ys (IntKind.wrap IntKind.i64 (i + (1 : Int)))) [] b)) False) False)) False) False)
  (K (Exit.exit (0 : Nat)) (tm18 xs ys i) [] b)) := by kernel_rfl
end
def wl18 {β : Type} : WLT β := fun c tm hp b K => ∃ (p q : List Row), c = .loop lp18 ∧ maskTm [0, 1, 5] 0 tm = tm18 (rowsR p) (rowsR q) 0 ∧ hp = [] ∧ (p.length ≤ 9223372036854775807 ∧ p.length = q.length ∧ ∀ r ∈ p, r.2.length ≤ 9223372036854775807) ∧
  BIf (p == q) (K (.exit 0) (tm18 (rowsR p) (rowsR q) p.length) [] b) (∀ i : Int, K .ret ((tm18 (rowsR p) (rowsR q) i).set 4 (.d (bo false))) [] b)
theorem wr18 {Ev : Env Tryd.prog} {b : Ev.β} {Q : Exit → St Ev.β → Prop} (p q : List Row) (hl : p.length ≤ 9223372036854775807) : ∀ (u v : List Row) (k : Nat), p.drop k = u → q.drop k = v → u.length = v.length → (∀ r ∈ u, r.2.length ≤ 9223372036854775807) →
    BIf (u == v) (Q (.exit 0) ⟨tm18 (rowsR p) (rowsR q) p.length, [], b⟩) (∀ i : Int, Q .ret ⟨(tm18 (rowsR p) (rowsR q) i).set 4 (.d (bo false)), [], b⟩) →
    k ≤ p.length → WR Ev lp18 (u.length + 1) ⟨tm18 (rowsR p) (rowsR q) k, [], b⟩ Q
  | [], [], k, hd, _, _, _, hQ, hk => by
    refine WR.ofMask [0, 1, 4, 5] mixed (CX.Ok.of (u := false) (CallsOk.cons c19_ok CallsOk.nil) SCallsOk.nil) (k := 100) ?_
    show wpc _ _ _ _ _ _ _ (maskK 0 _ _)
    rw [f18_round']
    have := drop_nil hd
    have e : k = p.length := by omega
    subst e
    exact BIf.f (by simp [rowsR]) hQ
  | (x, s) :: u, (y, t) :: v, k, hd, hd2, hle, hs, hQ, hk => by
    refine WR.ofMask [0, 1, 4, 5] mixed (CX.Ok.of (u := false) (CallsOk.cons c19_ok CallsOk.nil) SCallsOk.nil) (k := 100) ?_
    show wpc _ _ _ _ _ _ _ (maskK 0 _ _)
    rw [f18_round']
    obtain ⟨hk, hr, hd'⟩ := drop_cons hd
    obtain ⟨_, hr2, hd2'⟩ := drop_cons hd2
    have g1 : (rowsR p)[Int.toNat k]? = some [i64 x, .sl 1 (bytesR s)] := by simp [rowsR, hr, rowD]
    have g2 : (rowsR q)[Int.toNat k]? = some [i64 y, .sl 1 (bytesR t)] := by simp [rowsR, hr2, rowD]
    refine BIf.t (by simpa [rowsR] using hk) (BIf.t (by simp) ⟨_, _, g1, BIf.t (by simp) ⟨_, _, g2, BIf.of (fun h => ?_) fun h => BIf.t (by simp) ⟨_, _, g1, BIf.t (by simp) ⟨_, _, g2, s, t, _, rfl, hs _ (List.mem_cons_self ..), rfl, BIf.of (fun h2 => ?_) fun h2 => ?_⟩⟩⟩⟩)
    · have h : x ≠ y := by simpa [bne] using h
      exact bif_f hQ (by simp [h]) k
    · have h2 : s ≠ t := by simpa [bne] using h2
      exact bif_f hQ (by simp [h2]) k
    · have h : x = y := by simpa [bne] using h
      have h2 : s = t := by simpa [bne] using h2
      rw [wrap_succ hk hl]
      refine wr18 p q hl u v (k + 1) hd' hd2' (by simpa using hle) (fun r hr => hs r (List.mem_cons_of_mem _ hr)) ?_ hk
      subst h; subst h2
      have e : ((x, s) :: u == (x, s) :: v) = (u == v) := by simp
      rw [e] at hQ; exact hQ
theorem wl18_ok {Ev : Env Tryd.prog} (c : Code) (tm : List AV) (hp : List Blk) (b : Ev.β) (K : Exit → List AV → List Blk → Ev.β → Prop) (h : wl18 c tm hp b K) : W Ev c ⟨tm, hp, b⟩ (fun e s => K e s.tm s.hp s.b) := by
  obtain ⟨p, q, rfl, htm, rfl, ⟨h0, h1, h2⟩, hK⟩ := h
  refine W.cast (htm ▸ maskTm_le _ tm 0) (LeH.refl _) ?_
  exact W.rounds (wr18 (Q := fun e s => K e s.tm s.hp s.b) p q h0 p q 0 rfl rfl h1 h2 hK (Nat.zero_le _))
section
variable {β : Type} (wl : WLT β) (y : YieldT β) (b : β) (R : AV → β → Prop)
theorem f18_nf (xs ys : List (List Dv)) : wpFn Tryd.prog ⟨[(22, c19)], [], wl18, y, false⟩ 100 Tryd.f21 [.d (.sl 2 xs), .d (.sl 2 ys)] b R = (
  BIf ((xs.length : Int) != (ys.length : Int)) (R (AV.d (bo false)) b)
  (∃ p q : List Row, Code.loop lp18 = Code.loop lp18 ∧ tm18 xs ys 0 = tm18 (rowsR p) (rowsR q) 0 ∧ ([] : List Blk) = [] ∧ (p.length ≤ (9223372036854775807 : Nat) ∧ p.length = q.length ∧ ∀ r ∈ p, r.2.length ≤ 9223372036854775807) ∧
    BIf (p == q) (R (AV.d (bo true)) b) (∀ (i : Int), R (AV.d (bo false)) b))) := by kernel_rfl
end
theorem pc18 (p q : List Row) (hl : p.length ≤ 9223372036854775807) (hs : ∀ r ∈ p, r.2.length ≤ 9223372036854775807) : PCall Tryd.prog 21 [.d (.sl 2 (rowsR p)), .d (.sl 2 (rowsR q))] (.d (bo (p == q))) := by
  refine PCall.ofFnW (n := 100) (u := false) (fun _ => wl18) mixed (CallsOk.cons c19_ok CallsOk.nil) SCallsOk.nil (fun Ev => wl18_ok) Tryd.func21 (by rfl) (by rfl) fun Ev bb => ?_
  rw [f18_nf]
  refine BIf.of (fun h => ?_) fun h => ⟨p, q, rfl, rfl, rfl, ⟨hl, ?_, hs⟩, BIf.of (fun h => ?_) fun h _ => ?_⟩
  · have : (p == q) = false := by
      simp [rowsR] at h
      simp only [beq_eq_false_iff_ne]
      rintro rfl; exact h rfl
    rw [this]
  · simp [rowsR] at h; omega
  · rw [h]
  · rw [h]
def c18 (args : List AV) (K : AV → Prop) : Prop := ∃ (p q : List Row) (r : Bool), args = [.d (.sl 2 (rowsR p)), .d (.sl 2 (rowsR q))] ∧ (p.length ≤ 9223372036854775807 ∧ ∀ r ∈ p, r.2.length ≤ 9223372036854775807) ∧ r = (p == q) ∧ K (.d (bo r))
theorem c18_ok : ∀ args K, c18 args K → ∃ x, PCall Tryd.prog 21 args x ∧ K x := by
  rintro _ K ⟨p, q, _, rfl, ⟨h0, h1⟩, rfl, h⟩; exact ⟨_, pc18 p q h0 h1, h⟩

/-! ### Formed -/
def formedS (m : Int) (p : List Int) : Bool := decide (m ≥ 1) && (decide (m < 65536) && decide (p.length = 16))
theorem f24_nf' {β : Type} (wl : WLT β) (y : YieldT β) (b : β) (R : AV → β → Prop) (m : Int) (xs : List (List Dv)) : wpFn Tryd.prog ⟨[], [], wl, y, true⟩ 100 Tryd.f52 [.agg [.d (i64 m), .d (.sl 1 xs)]] b R = (
  BIf (decide (m ≥ (1 : Int))) (BIf (decide (m < (65536 : Int))) (R (AV.d (bo ((xs.length : Int) == (16 : Int)))) b) (R (AV.d (bo false)) b))
  (R (AV.d (bo false)) b)) := by kernel_rfl
theorem pc24 (m : Int) (p : List Int) : PCall Tryd.prog 52 [rowA m p] (.d (bo (formedS m p))) := by
  refine PCall.ofFn (n := 100) (u := true) mixed CallsOk.nil SCallsOk.nil Tryd.func52 (by rfl) (by rfl) fun Ev b => ?_
  show wpFn _ _ _ _ [.agg [.d (i64 m), .d (.sl 1 (bytesR p))]] _ _
  rw [f24_nf']
  refine BIf.of (fun h1 => BIf.of (fun h2 => ?_) fun h2 => ?_) fun h1 => ?_
  · simp only [formedS, h1, h2, Bool.true_and]
    congr 3
    simp only [bytesR, List.length_map]
    rw [Bool.eq_iff_iff]; simp; omega
  · simp only [formedS, h1, h2, Bool.true_and, Bool.false_and]
  · simp only [formedS, h1, Bool.false_and]
def c24 (args : List AV) (K : AV → Prop) : Prop := ∃ (m : Int) (p : List Int), args = [rowA m p] ∧ K (.d (bo (formedS m p)))
theorem c24_ok : ∀ args K, c24 args K → ∃ x, PCall Tryd.prog 52 args x ∧ K x := by
  rintro _ K ⟨m, p, rfl, h⟩; exact ⟨_, pc24 m p, h⟩

/-! ### block -/
def blockS (x : Int) : List Int := List.replicate 16 x
end Go.Proofs.YtkjmhfbjdeidjaaDoor.Am

namespace Go.Proofs.YtkjmhfbjdeidjaaDoor.Am
set_option linter.unusedVariables false
open Go Go.RowKit Go.Proofs

theorem f25_nf' {β : Type} (wl : WLT β) (y : YieldT β) (b : β) (R : AV → β → Prop) (xs ys : List (List Dv)) : wpFn Tryd.prog ⟨[], [], wl, y, true⟩ 100 Tryd.f26 [.d (.sl 1 xs), .d (.sl 1 ys)] b R = (
  ∃ a0, xs[(0 : Nat)]? = some [u8 a0] ∧ ∃ b0, ys[(0 : Nat)]? = some [u8 b0] ∧ ∃ a1, xs[(1 : Nat)]? = some [u8 a1] ∧ ∃ b1, ys[(1 : Nat)]? = some [u8 b1] ∧
  ∃ a2, xs[(2 : Nat)]? = some [u8 a2] ∧ ∃ b2, ys[(2 : Nat)]? = some [u8 b2] ∧ ∃ a3, xs[(3 : Nat)]? = some [u8 a3] ∧ ∃ b3, ys[(3 : Nat)]? = some [u8 b3] ∧
  ∃ a4, xs[(4 : Nat)]? = some [u8 a4] ∧ ∃ b4, ys[(4 : Nat)]? = some [u8 b4] ∧ ∃ a5, xs[(5 : Nat)]? = some [u8 a5] ∧ ∃ b5, ys[(5 : Nat)]? = some [u8 b5] ∧
  ∃ a6, xs[(6 : Nat)]? = some [u8 a6] ∧ ∃ b6, ys[(6 : Nat)]? = some [u8 b6] ∧ ∃ a7, xs[(7 : Nat)]? = some [u8 a7] ∧ ∃ b7, ys[(7 : Nat)]? = some [u8 b7] ∧
  ∃ a8, xs[(8 : Nat)]? = some [u8 a8] ∧ ∃ b8, ys[(8 : Nat)]? = some [u8 b8] ∧ ∃ a9, xs[(9 : Nat)]? = some [u8 a9] ∧ ∃ b9, ys[(9 : Nat)]? = some [u8 b9] ∧
  ∃ a10, xs[(10 : Nat)]? = some [u8 a10] ∧ ∃ b10, ys[(10 : Nat)]? = some [u8 b10] ∧ ∃ a11, xs[(11 : Nat)]? = some [u8 a11] ∧ ∃ b11, ys[(11 : Nat)]? = some [u8 b11] ∧
  ∃ a12, xs[(12 : Nat)]? = some [u8 a12] ∧ ∃ b12, ys[(12 : Nat)]? = some [u8 b12] ∧ ∃ a13, xs[(13 : Nat)]? = some [u8 a13] ∧ ∃ b13, ys[(13 : Nat)]? = some [u8 b13] ∧
  ∃ a14, xs[(14 : Nat)]? = some [u8 a14] ∧ ∃ b14, ys[(14 : Nat)]? = some [u8 b14] ∧ ∃ a15, xs[(15 : Nat)]? = some [u8 a15] ∧ ∃ b15, ys[(15 : Nat)]? = some [u8 b15] ∧
  R (.d (.sl 1 (bytesR [xor8 a0 b0, xor8 a1 b1, xor8 a2 b2, xor8 a3 b3, xor8 a4 b4, xor8 a5 b5, xor8 a6 b6, xor8 a7 b7, xor8 a8 b8, xor8 a9 b9, xor8 a10 b10, xor8 a11 b11, xor8 a12 b12, xor8 a13 b13, xor8 a14 b14, xor8 a15 b15]))) b) := by kernel_rfl

theorem bytesR_at {p : List Int} {i : Nat} (h : i < p.length) : (bytesR p)[i]? = some [u8 (nth p i)] := by
  simp [bytesR, nth, List.getElem?_eq_getElem h]

theorem pc25 (p q : List Int) (hp : 16 ≤ p.length) (hq : 16 ≤ q.length) : PCall Tryd.prog 26 [.d (.sl 1 (bytesR p)), .d (.sl 1 (bytesR q))] (.d (.sl 1 (bytesR (xorL p q)))) := by
  refine PCall.ofFn (n := 100) (u := true) mixed CallsOk.nil SCallsOk.nil Tryd.func26 (by rfl) (by rfl) fun Ev b => ?_
  rw [f25_nf']
  refine ⟨_, bytesR_at (by omega), _, bytesR_at (by omega), _, bytesR_at (by omega), _, bytesR_at (by omega), _, bytesR_at (by omega), _, bytesR_at (by omega), _, bytesR_at (by omega), _, bytesR_at (by omega),
    _, bytesR_at (by omega), _, bytesR_at (by omega), _, bytesR_at (by omega), _, bytesR_at (by omega), _, bytesR_at (by omega), _, bytesR_at (by omega), _, bytesR_at (by omega), _, bytesR_at (by omega),
    _, bytesR_at (by omega), _, bytesR_at (by omega), _, bytesR_at (by omega), _, bytesR_at (by omega), _, bytesR_at (by omega), _, bytesR_at (by omega), _, bytesR_at (by omega), _, bytesR_at (by omega),
    _, bytesR_at (by omega), _, bytesR_at (by omega), _, bytesR_at (by omega), _, bytesR_at (by omega), _, bytesR_at (by omega), _, bytesR_at (by omega), _, bytesR_at (by omega), _, bytesR_at (by omega), ?_⟩
  rfl
def c25 (args : List AV) (K : AV → Prop) : Prop := ∃ (p q r : List Int), args = [.d (.sl 1 (bytesR p)), .d (.sl 1 (bytesR q))] ∧ (16 ≤ p.length ∧ 16 ≤ q.length) ∧ r = xorL p q ∧ K (.d (.sl 1 (bytesR r)))
theorem c25_ok : ∀ args K, c25 args K → ∃ x, PCall Tryd.prog 26 args x ∧ K x := by
  rintro _ K ⟨p, q, _, rfl, ⟨h1, h2⟩, rfl, h⟩; exact ⟨_, pc25 p q h1 h2, h⟩

def nilA : AV := .d (.s (.slice none 0 0))

/-! ### R.Valid -/
noncomputable def lp21a : Code := sub [1, 0, 1, 2, 3] (code Tryd.f39)
noncomputable def lp21b : Code := sub [1, 1, 0, 1, 2, 3] (code Tryd.f39)
noncomputable def lp21c : Code := sub [1, 1, 0, 1, 2, 3, 1, 0, 2, 1, 2, 3] (code Tryd.f39)
def tm21a (xs : List (List Dv)) (i : Int) : List AV := [.d (.sl 2 xs), .bad, .bad, .d (i64 i)] ++ List.replicate 64 .bad
def tm21b (xs : List (List Dv)) (i : Int) : List AV := [.d (.sl 2 xs), .bad, .bad, .bad, .d (i64 i)] ++ List.replicate 63 .bad
def tm21c (xs : List (List Dv)) (i k : Int) : List AV := [.d (.sl 2 xs), .bad, .bad, .bad, .d (i64 i), .d (i64 k)] ++ List.replicate 62 .bad

def vInner (i : Nat) (x : Row) : Nat → List Row → Bool
  | _, [] => true
  | k, r :: l => (decide (i = k) || and64 r.1 (lead x.1) == 0) && vInner i x (k + 1) l
def vOuter (l : List Row) : Nat → List Row → Bool
  | _, [] => true
  | i, x :: r => vInner i x 0 l && vOuter l (i + 1) r
def prevOk (p : Option Row) (m : Int) : Bool := match p with
  | none => true
  | some q => decide (lead m < lead q.1)
def vPrev : Option Row → List Row → Bool
  | _, [] => true
  | p, r :: l => formedS r.1 r.2 && prevOk p r.1 && vPrev (some r) l
def validR (l : List Row) : Bool := vPrev none l && vOuter l 0 l


def T21 : List (Nat × (List AV → (AV → Prop) → Prop)) := [(52, c24), (56, c37)]
theorem T21_ok : CallsOk Tryd.prog T21 := CallsOk.cons c24_ok (CallsOk.cons c37_ok CallsOk.nil)
section
variable {β : Type} (wl : WLT β) (y : YieldT β) (b : β) (R : AV → β → Prop) (K : Exit → List AV → List Blk → β → Prop)
theorem f21a_round (xs : List (List Dv)) (i : Int) : wpc Tryd.prog ⟨T21, [], wl, y, false⟩ 100 lp21a (tm21a xs i) [] b (maskK 0 [0, 2, 3] K) = (
  BIf (decide (i < (xs.length : Int))) (BIf (true && decide (0 ≤ i)) (∃ x0 xs1, xs[Int.toNat i]? = some [i64 x0, Dv.sl 1 xs1] ∧ ∃ m4 p5, [AV.agg [AV.d (i64 x0), AV.d (Dv.sl 1 xs1)]] = [rowA m4 p5] ∧
    BIf (!formedS m4 p5) (K Exit.ret ((tm21a xs i).set 2 (.d (bo false))) [] b) (BIf (decide (i > 0))
      (BIf (true && decide (0 ≤ IntKind.wrap IntKind.i64 (i - 1))) (∃ x6 xs7, xs[Int.toNat (IntKind.wrap IntKind.i64 (i - 1))]? = some [i64 x6, Dv.sl 1 xs7] ∧ ∃ m10, [AV.d (i64 x6)] = [AV.d (i64 m10)] ∧ (1 ≤ m10 ∧ m10 < 4611686018427387904) ∧
        BIf (true && decide (0 ≤ i)) (∃ x11 xs12, xs[Int.toNat i]? = some [i64 x11, Dv.sl 1 xs12] ∧ ∃ m15, [AV.d (i64 x11)] = [AV.d (i64 m15)] ∧ (1 ≤ m15 ∧ m15 < 4611686018427387904) ∧
          BIf (decide (lead m10 ≤ lead m15)) (K Exit.ret ((tm21a xs i).set 2 (.d (bo false))) [] b) (K Exit.normal (tm21a xs (IntKind.wrap IntKind.i64 (i + 1))) [] b)) False) False)
      (K Exit.normal (tm21a xs (IntKind.wrap IntKind.i64 (i + 1))) [] b))) False) (K (Exit.exit 0) (tm21a xs i) [] b)) := by kernel_rfl
theorem f21c_round (xs : List (List Dv)) (i k : Int) : wpc Tryd.prog ⟨T21, [], wl, y, false⟩ 100 lp21c (tm21c xs i k) [] b (maskK 0 [0, 2, 4, 5] K) = (
  BIf (decide (k < (xs.length : Int))) (BIf (i != k) (BIf (true && decide (0 ≤ k)) (∃ x0 xs1, xs[Int.toNat k]? = some [i64 x0, Dv.sl 1 xs1] ∧ BIf (true && decide (0 ≤ i)) (∃ x4 xs5, xs[Int.toNat i]? = some [i64 x4, Dv.sl 1 xs5] ∧
    ∃ m8, [AV.d (i64 x4)] = [AV.d (i64 m8)] ∧ (1 ≤ m8 ∧ m8 < 4611686018427387904) ∧ BIf (and64 x0 (lead m8) != 0) (K Exit.ret ((tm21c xs i k).set 2 (.d (bo false))) [] b) (K Exit.normal (tm21c xs i (IntKind.wrap IntKind.i64 (k + 1))) [] b)) False) False)
    (K Exit.normal (tm21c xs i (IntKind.wrap IntKind.i64 (k + 1))) [] b)) (K (Exit.exit 4) (tm21c xs i k) [] b)) := by kernel_rfl
end

/-- the first loop -/
theorem wr21a {Ev : Env Tryd.prog} {b : Ev.β} {Q : Exit → St Ev.β → Prop} (l : List Row) (hl : l.length ≤ 9223372036854775807) : ∀ (rest : List Row) (k : Nat) (p : Option Row), l.drop k = rest → (k = 0 ∧ p = none ∨ ∃ j q, k = j + 1 ∧ p = some q ∧ l[j]? = some q ∧ okMask q) →
    BIf (vPrev p rest) (Q (.exit 0) ⟨tm21a (rowsR l) l.length, [], b⟩) (∀ i : Int, Q .ret ⟨(tm21a (rowsR l) i).set 2 (.d (bo false)), [], b⟩) →
    k ≤ l.length → WR Ev lp21a (rest.length + 1) ⟨tm21a (rowsR l) k, [], b⟩ Q
  | [], k, p, hd, _, hQ, hk => by
    refine WR.ofMask [0, 2, 3] mixed (CX.Ok.of (u := false) T21_ok SCallsOk.nil) (k := 100) ?_
    show wpc _ _ _ _ _ _ _ (maskK 0 _ _)
    rw [f21a_round]
    have := drop_nil hd
    have e : k = l.length := by omega
    subst e
    exact BIf.f (by simp [rowsR]) hQ
  | (m, s) :: rest, k, p, hd, hp, hQ, hk => by
    refine WR.ofMask [0, 2, 3] mixed (CX.Ok.of (u := false) T21_ok SCallsOk.nil) (k := 100) ?_
    show wpc _ _ _ _ _ _ _ (maskK 0 _ _)
    rw [f21a_round]
    obtain ⟨hk, hr, hd'⟩ := drop_cons hd
    have g1 : (rowsR l)[Int.toNat k]? = some [i64 m, .sl 1 (bytesR s)] := by simp [rowsR, hr, rowD]
    refine BIf.t (by simpa [rowsR] using hk) (BIf.t (by simp) ⟨_, _, g1, m, s, rfl, BIf.of (fun hf => ?_) fun hf => ?_⟩)
    · have hf : formedS m s = false := by simpa using hf
      exact bif_f hQ (by simp [vPrev, hf]) k
    · have hf : formedS m s = true := by simpa using hf
      have hok : okMask (m, s) := by
        simp only [formedS, Bool.and_eq_true, decide_eq_true_eq] at hf
        exact ⟨hf.1, hf.2.1⟩
      have hgo : prevOk p m = true → WR Ev lp21a (rest.length + 1) ⟨tm21a (rowsR l) (IntKind.wrap .i64 ((k : Int) + 1)), [], b⟩ Q := by
        intro h1
        rw [wrap_succ hk hl]
        refine wr21a l hl rest (k + 1) (some (m, s)) hd' (.inr ⟨k, _, rfl, rfl, hr, hok⟩) ?_ hk
        have e : vPrev p ((m, s) :: rest) = vPrev (some (m, s)) rest := by simp only [vPrev, hf, h1, Bool.true_and]
        rw [e] at hQ; exact hQ
      rcases hp with ⟨rfl, rfl⟩ | ⟨j, q, rfl, rfl, hj, hq⟩
      · exact BIf.f (by simp) (hgo rfl)
      · have e : IntKind.wrap .i64 (((j + 1 : Nat) : Int) - 1) = (j : Int) := by rw [wrap_i64 (by omega) (by omega)]; omega
        rw [e]
        have g2 : (rowsR l)[Int.toNat j]? = some [i64 q.1, .sl 1 (bytesR q.2)] := by simp [rowsR, hj, rowD]
        refine BIf.t (by simp) (BIf.t (by simp) ⟨_, _, g2, q.1, rfl, ⟨hq.1, by have := hq.2; omega⟩, BIf.t (by simp; omega) ⟨_, _, g1, m, rfl, ⟨hok.1, by have := hok.2; simp only at this; omega⟩, BIf.of (fun hc => ?_) fun hc => ?_⟩⟩)
        · have hc : lead q.1 ≤ lead m := by simpa using hc
          refine bif_f hQ ?_ _
          simp only [vPrev, prevOk]
          rw [decide_eq_false (by omega)]; simp
        · have hc : lead m < lead q.1 := by simpa using hc
          exact hgo (by simpa [prevOk] using hc)

/-- the inner loop of the second one -/
theorem wr21c {Ev : Env Tryd.prog} {b : Ev.β} {Q : Exit → St Ev.β → Prop} (l : List Row) (hl : l.length ≤ 9223372036854775807) (i : Nat) (x : Row) (hx : l[i]? = some x) (hok : okMask x) : ∀ (rest : List Row) (k : Nat), l.drop k = rest →
    BIf (vInner i x k rest) (Q (.exit 4) ⟨tm21c (rowsR l) i l.length, [], b⟩) (∀ k : Int, Q .ret ⟨(tm21c (rowsR l) i k).set 2 (.d (bo false)), [], b⟩) →
    k ≤ l.length → WR Ev lp21c (rest.length + 1) ⟨tm21c (rowsR l) i k, [], b⟩ Q
  | [], k, hd, hQ, hk => by
    refine WR.ofMask [0, 2, 4, 5] mixed (CX.Ok.of (u := false) T21_ok SCallsOk.nil) (k := 100) ?_
    show wpc _ _ _ _ _ _ _ (maskK 0 _ _)
    rw [f21c_round]
    have := drop_nil hd
    have e : k = l.length := by omega
    subst e
    exact BIf.f (by simp [rowsR]) hQ
  | r :: rest, k, hd, hQ, hk => by
    refine WR.ofMask [0, 2, 4, 5] mixed (CX.Ok.of (u := false) T21_ok SCallsOk.nil) (k := 100) ?_
    show wpc _ _ _ _ _ _ _ (maskK 0 _ _)
    rw [f21c_round]
    obtain ⟨hk, hr, hd'⟩ := drop_cons hd
    have g1 : (rowsR l)[Int.toNat k]? = some [i64 r.1, .sl 1 (bytesR r.2)] := by simp [rowsR, hr, rowD]
    have g2 : (rowsR l)[Int.toNat i]? = some [i64 x.1, .sl 1 (bytesR x.2)] := by simp [rowsR, hx, rowD]
    have hgo : (decide (i = k) || and64 r.1 (lead x.1) == 0) = true → WR Ev lp21c (rest.length + 1) ⟨tm21c (rowsR l) i (IntKind.wrap .i64 ((k : Int) + 1)), [], b⟩ Q := by
      intro h
      rw [wrap_succ hk hl]
      refine wr21c l hl i x hx hok rest (k + 1) hd' ?_ hk
      have e : vInner i x k (r :: rest) = vInner i x (k + 1) rest := by simp only [vInner, h, Bool.true_and]
      rw [e] at hQ; exact hQ
    refine BIf.t (by simpa [rowsR] using hk) (BIf.of (fun hne => ?_) fun hne => ?_)
    · have hne : ¬ i = k := by simp [bne] at hne; omega
      refine BIf.t (by simp) ⟨_, _, g1, BIf.t (by simp) ⟨_, _, g2, x.1, rfl, ⟨hok.1, by have := hok.2; omega⟩, BIf.of (fun hc => ?_) fun hc => ?_⟩⟩
      · refine bif_f hQ ?_ _
        have : (and64 r.1 (lead x.1) == 0) = false := by simpa [bne] using hc
        simp only [vInner, this, hne, decide_false, Bool.or_false, Bool.false_and]
      · have : (and64 r.1 (lead x.1) == 0) = true := by simpa [bne] using hc
        exact hgo (by rw [this]; simp)
    · have hne : i = k := by simp [bne] at hne; omega
      exact hgo (by simp [hne])

def wl21c {β : Type} : WLT β := fun c tm hp b K => ∃ (l : List Row) (i : Nat) (x : Row), c = .loop lp21c ∧ maskTm [0, 4, 5] 0 tm = tm21c (rowsR l) i 0 ∧ hp = [] ∧ (l.length ≤ 9223372036854775807 ∧ l[i]? = some x ∧ okMask x) ∧
  BIf (vInner i x 0 l) (K (.exit 4) (tm21c (rowsR l) i l.length) [] b) (∀ k : Int, K .ret ((tm21c (rowsR l) i k).set 2 (.d (bo false))) [] b)
theorem wl21c_ok {Ev : Env Tryd.prog} (c : Code) (tm : List AV) (hp : List Blk) (b : Ev.β) (K : Exit → List AV → List Blk → Ev.β → Prop) (h : wl21c c tm hp b K) : W Ev c ⟨tm, hp, b⟩ (fun e s => K e s.tm s.hp s.b) := by
  obtain ⟨l, i, x, rfl, htm, rfl, ⟨h0, h1, h2⟩, hK⟩ := h
  refine W.cast (htm ▸ maskTm_le _ tm 0) (LeH.refl _) ?_
  exact W.rounds (wr21c (Q := fun e s => K e s.tm s.hp s.b) l h0 i x h1 h2 l 0 rfl hK (Nat.zero_le _))

section
variable {β : Type} (wl : WLT β) (y : YieldT β) (b : β) (R : AV → β → Prop) (K : Exit → List AV → List Blk → β → Prop)
theorem f21b_round (xs : List (List Dv)) (i : Int) : wpc Tryd.prog ⟨T21, [], wl21c, y, false⟩ 100 lp21b (tm21b xs i) [] b (maskK 0 [0, 2, 4] K) = (
  BIf (decide (i < (xs.length : Int))) (∃ (l : List Row) (i' : Nat) (x : Row), Code.loop lp21c = Code.loop lp21c ∧ tm21c xs i 0 = tm21c (rowsR l) i' 0 ∧ ([] : List Blk) = [] ∧ (l.length ≤ 9223372036854775807 ∧ l[i']? = some x ∧ okMask x) ∧
    BIf (vInner i' x 0 l) (K .normal (tm21b (rowsR l) (IntKind.wrap .i64 (i' + 1))) [] b) (∀ k : Int, K .ret ((tm21b (rowsR l) i').set 2 (.d (bo false))) [] b)) (K (Exit.exit 2) (tm21b xs i) [] b)) := by kernel_rfl
end

theorem wr21b {Ev : Env Tryd.prog} {b : Ev.β} {Q : Exit → St Ev.β → Prop} (l : List Row) (hl : l.length ≤ 9223372036854775807) (hok : ∀ r ∈ l, okMask r) : ∀ (rest : List Row) (k : Nat), l.drop k = rest →
    BIf (vOuter l k rest) (Q (.exit 2) ⟨tm21b (rowsR l) l.length, [], b⟩) (∀ i : Int, Q .ret ⟨(tm21b (rowsR l) i).set 2 (.d (bo false)), [], b⟩) →
    k ≤ l.length → WR Ev lp21b (rest.length + 1) ⟨tm21b (rowsR l) k, [], b⟩ Q
  | [], k, hd, hQ, hk => by
    refine WR.ofMask [0, 2, 4] mixed (CX.Ok.ofWl (u := false) T21_ok SCallsOk.nil wl21c_ok) (k := 100) ?_
    show wpc _ _ _ _ _ _ _ (maskK 0 _ _)
    rw [f21b_round]
    have := drop_nil hd
    have e : k = l.length := by omega
    subst e
    exact BIf.f (by simp [rowsR]) hQ
  | x :: rest, k, hd, hQ, hk => by
    refine WR.ofMask [0, 2, 4] mixed (CX.Ok.ofWl (u := false) T21_ok SCallsOk.nil wl21c_ok) (k := 100) ?_
    show wpc _ _ _ _ _ _ _ (maskK 0 _ _)
    rw [f21b_round]
    obtain ⟨hk, hr, hd'⟩ := drop_cons hd
    refine BIf.t (by simpa [rowsR] using hk) ⟨l, k, x, rfl, rfl, rfl, ⟨hl, hr, hok x (List.mem_of_getElem? hr)⟩, BIf.of (fun hc => ?_) fun hc _ => ?_⟩
    · rw [wrap_succ hk hl]
      refine wr21b l hl hok rest (k + 1) hd' ?_ hk
      have e : vOuter l k (x :: rest) = vOuter l (k + 1) rest := by simp only [vOuter, hc, Bool.true_and]
      rw [e] at hQ; exact hQ
    · exact bif_f hQ (by simp only [vOuter, hc, Bool.false_and]) _

theorem vPrev_ok : ∀ {l : List Row} {p : Option Row}, vPrev p l = true → ∀ r ∈ l, okMask r
  | [], _, _, r, hr => by cases hr
  | r0 :: l, p, h, r, hr => by
    simp only [vPrev, Bool.and_eq_true] at h
    rcases List.mem_cons.1 hr with rfl | hr
    · have := h.1.1
      simp only [formedS, Bool.and_eq_true, decide_eq_true_eq] at this
      exact ⟨this.1, this.2.1⟩
    · exact vPrev_ok h.2 r hr

def wl21 {β : Type} : WLT β := fun c tm hp b K => match cidO c with
  | 3 => ∃ (l : List Row), c = .loop lp21a ∧ maskTm [0, 3] 0 tm = tm21a (rowsR l) 0 ∧ hp = [] ∧ l.length ≤ 9223372036854775807 ∧
    BIf (vPrev none l) (K (.exit 0) (tm21a (rowsR l) l.length) [] b) (∀ i : Int, K .ret ((tm21a (rowsR l) i).set 2 (.d (bo false))) [] b)
  | 8 => ∃ (l : List Row), c = .loop lp21b ∧ maskTm [0, 4] 0 tm = tm21b (rowsR l) 0 ∧ hp = [] ∧ (l.length ≤ 9223372036854775807 ∧ ∀ r ∈ l, okMask r) ∧
    BIf (vOuter l 0 l) (K (.exit 2) (tm21b (rowsR l) l.length) [] b) (∀ i : Int, K .ret ((tm21b (rowsR l) i).set 2 (.d (bo false))) [] b)
  | _ => False
theorem wl21_ok {Ev : Env Tryd.prog} (c : Code) (tm : List AV) (hp : List Blk) (b : Ev.β) (K : Exit → List AV → List Blk → Ev.β → Prop) (h : wl21 c tm hp b K) : W Ev c ⟨tm, hp, b⟩ (fun e s => K e s.tm s.hp s.b) := by
  unfold wl21 at h
  split at h
  · obtain ⟨l, rfl, htm, rfl, h0, hK⟩ := h
    refine W.cast (htm ▸ maskTm_le _ tm 0) (LeH.refl _) ?_
    exact W.rounds (wr21a (Q := fun e s => K e s.tm s.hp s.b) l h0 l 0 none rfl (.inl ⟨rfl, rfl⟩) hK (Nat.zero_le _))
  · obtain ⟨l, rfl, htm, rfl, ⟨h0, h1⟩, hK⟩ := h
    refine W.cast (htm ▸ maskTm_le _ tm 0) (LeH.refl _) ?_
    exact W.rounds (wr21b (Q := fun e s => K e s.tm s.hp s.b) l h0 h1 l 0 rfl hK (Nat.zero_le _))
  · exact h.elim
section
variable {β : Type} (wl : WLT β) (y : YieldT β) (b : β) (R : AV → β → Prop)
theorem f21_nf (xs : List (List Dv)) : wpFn Tryd.prog ⟨T21, [], wl21, y, false⟩ 100 Tryd.f39 [.d (.sl 2 xs)] b R = (
  ∃ l : List Row, Code.loop lp21a = Code.loop lp21a ∧ tm21a xs 0 = tm21a (rowsR l) 0 ∧ ([] : List Blk) = [] ∧ l.length ≤ 9223372036854775807 ∧
    BIf (vPrev none l) (∃ l' : List Row, Code.loop lp21b = Code.loop lp21b ∧ tm21b (rowsR l) 0 = tm21b (rowsR l') 0 ∧ ([] : List Blk) = [] ∧ (l'.length ≤ 9223372036854775807 ∧ ∀ r ∈ l', okMask r) ∧
      BIf (vOuter l' 0 l') (R (.d (bo true)) b) (∀ i : Int, R (.d (bo false)) b)) (∀ i : Int, R (.d (bo false)) b)) := by kernel_rfl
end
theorem pc21 (l : List Row) (hl : l.length ≤ 9223372036854775807) : PCall Tryd.prog 39 [.d (.sl 2 (rowsR l))] (.d (bo (validR l))) := by
  refine PCall.ofFnW (n := 100) (u := false) (fun _ => wl21) mixed T21_ok SCallsOk.nil (fun Ev => wl21_ok) Tryd.func39 (by rfl) (by rfl) fun Ev bb => ?_
  rw [f21_nf]
  refine ⟨l, rfl, rfl, rfl, hl, BIf.of (fun ha => ⟨l, rfl, rfl, rfl, ⟨hl, vPrev_ok ha⟩, BIf.of (fun hb => ?_) fun hb _ => ?_⟩) fun ha _ => ?_⟩
  · rw [show validR l = true by simp only [validR, ha, hb]; rfl]
  · rw [show validR l = false by simp only [validR, ha, hb]; rfl]
  · rw [show validR l = false by simp only [validR, ha]; rfl]
def c21 (args : List AV) (K : AV → Prop) : Prop := ∃ (l : List Row), args = [.d (.sl 2 (rowsR l))] ∧ l.length ≤ 9223372036854775807 ∧ K (.d (bo (validR l)))
theorem c21_ok : ∀ args K, c21 args K → ∃ x, PCall Tryd.prog 39 args x ∧ K x := by
  rintro _ K ⟨l, rfl, h1, h⟩; exact ⟨_, pc21 l h1, h⟩
end Go.Proofs.YtkjmhfbjdeidjaaDoor.Am

namespace Go.Proofs.YtkjmhfbjdeidjaaDoor.Am
set_option linter.unusedVariables false
open Go Go.RowKit Go.Proofs

/-! ### words of bits -/
section
variable {ι : Type}
def vx (u v : ι → Bool) : ι → Bool := fun i => (u i ^^ v i)
def redV (x : ι → Bool) (r : ι × (ι → Bool)) : ι → Bool := if x r.1 then vx x r.2 else x
theorem redV_vx (x y : ι → Bool) (r : ι × (ι → Bool)) : redV (vx x y) r = vx (redV x r) (redV y r) := by
  funext i
  unfold redV
  have e : vx x y r.1 = (x r.1 ^^ y r.1) := rfl
  rw [e]
  cases x r.1 <;> cases y r.1 <;> simp [vx] <;> cases x i <;> cases y i <;> cases r.2 i <;> rfl
theorem foldV_vx : ∀ (l : List (ι × (ι → Bool))) (x y : ι → Bool), l.foldl redV (vx x y) = vx (l.foldl redV x) (l.foldl redV y)
  | [], x, y => rfl
  | r :: l, x, y => by simp only [List.foldl_cons, redV_vx, foldV_vx l]
end

/-! ### equations as words -/
abbrev Ix := Nat ⊕ (Nat × Nat)
def vec (x : Row) : Ix → Bool
  | .inl k => x.1.toNat.testBit k
  | .inr (i, j) => decide (i < 16) && (BitVec.ofInt 8 (nth x.2 i)).getLsbD j
def top (m : Int) : Nat := m.toNat.log2
def rowV (r : Row) : Ix × (Ix → Bool) := (.inl (top r.1), vec (r.1, pad r.2))

theorem nth_xorL {p q : List Int} {i : Nat} (h : i < 16) : nth (xorL p q) i = xor8 (nth p i) (nth q i) := by
  simp [nth, xorL, List.getElem?_range, h]
theorem wrap_u8_nat {n : Nat} (h : n < 256) : IntKind.wrap .u8 (n : Int) = n := wrap_u8 (by omega) (by omega)
theorem xor8_nat (a b : Int) : xor8 a b = (((BitVec.ofInt 8 a ^^^ BitVec.ofInt 8 b).toNat : Nat) : Int) := by
  unfold xor8; exact wrap_u8_nat (BitVec.isLt _)
theorem ofInt_xor8 (a b : Int) : BitVec.ofInt 8 (xor8 a b) = BitVec.ofInt 8 a ^^^ BitVec.ofInt 8 b := by
  rw [xor8_nat]
  generalize hz : BitVec.ofInt 8 a ^^^ BitVec.ofInt 8 b = z
  apply BitVec.eq_of_toNat_eq
  rw [BitVec.toNat_ofInt]
  have := z.isLt
  omega
theorem xor8_bd (a b : Int) : 0 ≤ xor8 a b ∧ xor8 a b < 256 := by
  rw [xor8_nat]
  have := (BitVec.ofInt 8 a ^^^ BitVec.ofInt 8 b).isLt
  omega
theorem vec_xor {m n : Int} {p q : List Int} (h0 : 0 ≤ m) (h1 : m < 65536) (h2 : 0 ≤ n) (h3 : n < 65536) : vec (xor64 m n, xorL p q) = vx (vec (m, p)) (vec (n, q)) := by
  funext i
  cases i with
  | inl k => simp only [vec, vx]; rw [xor64_eq h0 h1 h2 h3]; simp
  | inr ij =>
    obtain ⟨i, j⟩ := ij
    simp only [vec, vx]
    by_cases h : i < 16
    · rw [nth_xorL h, ofInt_xor8]; simp [h]
    · simp [h]

theorem lead_nat (m : Int) : (lead m).toNat = 2 ^ top m := Int.toNat_natCast _
theorem lead_bd {m : Int} (h0 : 1 ≤ m) (h1 : m < 65536) : 0 ≤ lead m ∧ lead m < 65536 := by
  have h2 := (log2_bounds (n := m.toNat) (by omega)).1
  unfold lead
  generalize 2 ^ m.toNat.log2 = z at h2
  omega
theorem and_pow (n k : Nat) : n &&& 2 ^ k = if n.testBit k then 2 ^ k else 0 := by
  apply Nat.eq_of_testBit_eq
  intro i
  rw [Nat.testBit_and, Nat.testBit_two_pow]
  by_cases h : k = i
  · subst h
    cases hn : n.testBit k <;> simp [Nat.testBit_two_pow]
  · cases hn : n.testBit k <;> simp [Nat.testBit_two_pow, h]
theorem and_lead {x m : Int} (hx : 0 ≤ x ∧ x < 65536) (h0 : 1 ≤ m) (h1 : m < 65536) : (and64 x (lead m) != 0) = x.toNat.testBit (top m) := by
  have hl := lead_bd h0 h1
  rw [and64_eq hx.1 hx.2 hl.1 hl.2, lead_nat, and_pow]
  cases x.toNat.testBit (top m) with
  | true =>
    have := Nat.two_pow_pos (top m)
    generalize 2 ^ top m = z at this
    simp [bne]; omega
  | false => simp [bne]
theorem vec_red {x r : Row} (hx : 0 ≤ x.1 ∧ x.1 < 65536) (hr : okMask r) : vec (red x r) = redV (vec x) (rowV r) := by
  unfold red redV rowV
  rw [and_lead hx hr.1 hr.2]
  show _ = if x.1.toNat.testBit (top r.1) then _ else _
  split
  · rw [vec_xor hx.1 hx.2 (by have := hr.1; omega) hr.2]
  · rfl
theorem vec_foldl : ∀ {l : List Row} {x : Row}, 0 ≤ x.1 ∧ x.1 < 65536 → (∀ r ∈ l, okMask r) → vec (l.foldl red x) = (l.map rowV).foldl redV (vec x)
  | [], x, _, _ => rfl
  | r :: l, x, hx, h => by
    have hr := h r (List.mem_cons_self ..)
    simp only [List.foldl_cons, List.map_cons]
    rw [vec_foldl (red_bd hx hr) fun r' h' => h r' (List.mem_cons_of_mem _ h'), vec_red hx hr]

/-- its bytes are bytes -/
def canon (p : List Int) : Prop := ∀ i, i < 16 → 0 ≤ nth p i ∧ nth p i < 256
theorem canon_nil : canon [] := fun i _ => by simp [nth]
theorem canon_xorL (p q : List Int) : canon (xorL p q) := fun i h => by rw [nth_xorL h]; exact xor8_bd _ _
theorem canon_red {x r : Row} (h : canon x.2) : canon (red x r).2 := by
  unfold red; split
  · exact canon_xorL _ _
  · exact h
theorem canon_foldl : ∀ {l : List Row} {x : Row}, canon x.2 → canon (l.foldl red x).2
  | [], _, h => h
  | r :: l, x, h => canon_foldl (l := l) (canon_red h)

theorem ofInt8_inj {a b : Int} (ha : 0 ≤ a ∧ a < 256) (hb : 0 ≤ b ∧ b < 256) (h : BitVec.ofInt 8 a = BitVec.ofInt 8 b) : a = b := by
  have := congrArg BitVec.toNat h
  simp only [BitVec.toNat_ofInt] at this
  omega
theorem vec_inr {x y : Row} (h : vec x = vec y) {i : Nat} (hi : i < 16) : BitVec.ofInt 8 (nth x.2 i) = BitVec.ofInt 8 (nth y.2 i) := by
  apply BitVec.eq_of_getLsbD_eq
  intro j _
  have := congrFun h (.inr (i, j))
  simpa [vec, hi] using this
theorem b16_len (p : List Int) : (b16 p).length = 16 := by simp [b16]
theorem nth_b16 {p : List Int} {i : Nat} (h : i < 16) : nth (b16 p) i = nth p i := by
  simp [nth, b16, List.getElem?_range, h]
theorem list16 {p q : List Int} (hp : p.length = 16) (hq : q.length = 16) (h : ∀ i, i < 16 → nth p i = nth q i) : p = q := by
  apply List.ext_getElem (by omega)
  intro i h1 h2
  have := h i (by omega)
  simpa [nth, List.getElem?_eq_getElem h1, List.getElem?_eq_getElem h2] using this
theorem b16_ext {x y : Row} (hx : canon x.2) (hy : canon y.2) (h : vec x = vec y) : b16 x.2 = b16 y.2 :=
  list16 (b16_len _) (b16_len _) fun i hi => by rw [nth_b16 hi, nth_b16 hi]; exact ofInt8_inj (hx i hi) (hy i hi) (vec_inr h hi)
theorem vec_inl {x y : Row} (hx : 0 ≤ x.1) (hy : 0 ≤ y.1) (h : vec x = vec y) : x.1 = y.1 := by
  have : x.1.toNat = y.1.toNat := by
    apply Nat.eq_of_testBit_eq
    intro k
    have := congrFun h (.inl k)
    simpa [vec] using this
  omega
/-- equations with bytes: the same word, the same equation -/
theorem xorL_b16 (p q : List Int) : xorL (b16 p) (b16 q) = xorL p q :=
  list16 (by simp [xorL]) (by simp [xorL]) fun i hi => by rw [nth_xorL hi, nth_xorL hi, nth_b16 hi, nth_b16 hi]
theorem b16_xorL (p q : List Int) : b16 (xorL p q) = xorL p q :=
  list16 (b16_len _) (by simp [xorL]) fun i hi => nth_b16 hi

theorem validS_ok {l : List Row} (h : validS l = true) : ∀ r ∈ l, okMask r := by
  simp only [validS, Bool.and_eq_true] at h
  exact fun r hr => fine_ok (vA_ok h.1 r hr)

/-- the sum of two sums -/
theorem red_sum {l : List Row} (hl : ∀ r ∈ l, okMask r) {a c : Int} (ha : 0 ≤ a ∧ a < 65536) (hc : 0 ≤ c ∧ c < 65536) :
    (l.foldl red (xor64 a c, [])).1 = xor64 (l.foldl red (a, [])).1 (l.foldl red (c, [])).1 ∧ b16 (l.foldl red (xor64 a c, [])).2 = xorL (l.foldl red (a, [])).2 (l.foldl red (c, [])).2 := by
  have hx := xor64_bd ha.1 ha.2 hc.1 hc.2
  have b1 := foldl_red_bd (l := l) (x := (a, [])) ha hl
  have b2 := foldl_red_bd (l := l) (x := (c, [])) hc hl
  have b3 := foldl_red_bd (l := l) (x := (xor64 a c, [])) hx hl
  have e0 : vec (xor64 a c, []) = vx (vec (a, [])) (vec (c, [])) := by
    rw [← vec_xor ha.1 ha.2 hc.1 hc.2]
    funext i
    cases i with
    | inl k => rfl
    | inr ij =>
      obtain ⟨i, j⟩ := ij
      simp only [vec]
      by_cases h : i < 16
      · rw [nth_xorL h]; simp [nth, xor8_nat]
      · simp [h]
  have e : vec (l.foldl red (xor64 a c, [])) = vec (xor64 (l.foldl red (a, [])).1 (l.foldl red (c, [])).1, xorL (l.foldl red (a, [])).2 (l.foldl red (c, [])).2) := by
    rw [vec_foldl hx hl, e0, foldV_vx, ← vec_foldl ha hl, ← vec_foldl hc hl, vec_xor b1.1 b1.2 b2.1 b2.2]
  have b4 := xor64_bd b1.1 b1.2 b2.1 b2.2
  refine ⟨vec_inl b3.1 b4.1 e, ?_⟩
  have := b16_ext (canon_foldl canon_nil) (canon_xorL _ _) e
  rw [this, b16_xorL]

theorem xor64_zero {a b : Int} (ha : 0 ≤ a ∧ a < 65536) (hb : 0 ≤ b ∧ b < 65536) : xor64 a b = 0 ↔ a = b := by
  rw [xor64_eq ha.1 ha.2 hb.1 hb.2]
  constructor
  · intro h
    have : a.toNat ^^^ b.toNat = 0 := by omega
    have : a.toNat = b.toNat := by
      apply Nat.eq_of_testBit_eq
      intro k
      have h2 := congrArg (fun z => z.testBit k) this
      simpa using h2
    omega
  · rintro rfl; simp

end Go.Proofs.YtkjmhfbjdeidjaaDoor.Am

namespace Go.Proofs.YtkjmhfbjdeidjaaDoor.Am
set_option linter.unusedVariables false
open Go Go.RowKit Go.Proofs

/-! ### SolveSums -/
theorem sumS_def {l : List Row} {m : Int} (h0 : 0 ≤ m) (h1 : m < 65536) (hv : validS l = true) : sumS l m = if (l.foldl red (m, [])).1 != 0 then ([], false) else (b16 (l.foldl red (m, [])).2, true) := by
  unfold sumS
  rw [decide_eq_false (by omega), decide_eq_false (by omega), hv]; rfl
theorem sumS_bad {l : List Row} {m : Int} (hv : validS l = false) : sumS l m = ([], false) := by
  unfold sumS; rw [hv]; simp

theorem sums_law (l : List Row) (a c : Int) (ha : 0 ≤ a ∧ a < 65536) (hc : 0 ≤ c ∧ c < 65536) :
    ((sumS l a).2 = true → (sumS l c).2 = true → (sumS l (xor64 a c)).2 = true ∧ (sumS l a).1.length = 16 ∧ (sumS l c).1.length = 16 ∧ (sumS l (xor64 a c)).1 = xorL (sumS l a).1 (sumS l c).1) ∧
    ((sumS l (xor64 a c)).2 = true → (sumS l a).2 = (sumS l c).2) := by
  cases hv : validS l with
  | false => simp [sumS_bad hv]
  | true =>
    have hl := validS_ok hv
    have hx := xor64_bd ha.1 ha.2 hc.1 hc.2
    rw [sumS_def ha.1 ha.2 hv, sumS_def hc.1 hc.2 hv, sumS_def hx.1 hx.2 hv]
    obtain ⟨e1, e2⟩ := red_sum hl ha hc
    have b1 := foldl_red_bd (l := l) (x := (a, [])) ha hl
    have b2 := foldl_red_bd (l := l) (x := (c, [])) hc hl
    have hz := xor64_zero b1 b2
    rw [← e1] at hz
    generalize l.foldl red (a, []) = u at *
    generalize l.foldl red (c, []) = v at *
    generalize l.foldl red (xor64 a c, []) = w at *
    by_cases h1 : u.1 = 0
    · by_cases h2 : v.1 = 0
      · have h3 : w.1 = 0 := hz.2 (by omega)
        simp [h1, h2, h3, b16_len, e2, xorL_b16]
      · have h3 : ¬ w.1 = 0 := fun h => h2 (by have := hz.1 h; omega)
        simp [h1, h2, h3]
    · by_cases h2 : v.1 = 0
      · have h3 : ¬ w.1 = 0 := fun h => h1 (by have := hz.1 h; omega)
        simp [h1, h2, h3]
      · simp [h1, h2]

theorem u16_bd {x : Int} (h : (Lit.int .u16 x).wf = true) : 0 ≤ x ∧ x < 65536 := by
  simp [Lit.wf, IntKind.min, IntKind.max, IntKind.signed, IntKind.bits] at h; omega
theorem wrap_u16 {x : Int} (h0 : 0 ≤ x) (h1 : x < 65536) : IntKind.wrap .u16 x = x := by
  simp only [IntKind.wrap]; simp [IntKind.signed, IntKind.bits]; omega
theorem xor16_eq {a c : Int} (ha : 0 ≤ a ∧ a < 65536) (hc : 0 ≤ c ∧ c < 65536) : IntKind.wrap IntKind.i64 (IntKind.wrap IntKind.u16 ((BitVec.ofInt 16 a ^^^ BitVec.ofInt 16 c).toNat : Nat)) = xor64 a c := by
  rw [xor64_eq ha.1 ha.2 hc.1 hc.2, BitVec.toNat_xor]
  have e1 : (BitVec.ofInt 16 a).toNat = a.toNat := by rw [BitVec.toNat_ofInt]; omega
  have e2 : (BitVec.ofInt 16 c).toNat = c.toNat := by rw [BitVec.toNat_ofInt]; omega
  rw [e1, e2]
  have : a.toNat ^^^ c.toNat < 2 ^ 16 := Nat.xor_lt_two_pow (by omega) (by omega)
  rw [wrap_u16 (by omega) (by omega), wrap_i64 (by omega) (by omega)]

end Go.Proofs.YtkjmhfbjdeidjaaDoor.Am

namespace Go.Proofs.YtkjmhfbjdeidjaaDoor.Am
set_option linter.unusedVariables false
open Go Go.RowKit Go.Proofs Go.ChangeShapes Go.WideShapes Go.ChangeAt

theorem Try_own : ownKnob Tryd.prog.godebug = none := by kernel_rfl
theorem Try_laidOut : laidOutB Tryd.prog = true := by kernel_rfl
theorem flat22 : flat Tryd.prog 20 23 = some [.sl [.int .i64, .sl [.int .u8]]] := by kernel_rfl

/-- bytes of a row -/
def goodRow (r : Row) : Prop := r.2.length ≤ maxLen ∧ (∀ x ∈ r.2, 0 ≤ x ∧ x < 256)
theorem bytes_of {x : Dv} (h : HasTy (.sl [.int .u8]) x) : ∃ p : List Int, x = .sl 1 (bytesR p) ∧ p.length ≤ maxLen ∧ ∀ a ∈ p, 0 ≤ a ∧ a < 256 := by
  cases h with
  | sl _ xs hl h =>
    have key : ∀ (xs : List (List Dv)), (∀ row ∈ xs, HasTys [.int .u8] row) → ∃ p : List Int, xs = bytesR p ∧ ∀ a ∈ p, 0 ≤ a ∧ a < 256 := by
      intro xs
      induction xs with
      | nil => exact fun _ => ⟨[], rfl, fun a h => by cases h⟩
      | cons row xs ih =>
        intro h
        obtain ⟨p, rfl, hp⟩ := ih fun r hr => h r (List.mem_cons_of_mem _ hr)
        have h0 := h row (List.mem_cons_self ..)
        cases h0 with
        | cons h1 h2 => cases h2 with
          | nil => cases h1 with
            | int _ n hw =>
              refine ⟨n :: p, rfl, fun a ha => ?_⟩
              rcases List.mem_cons.1 ha with rfl | ha
              · simp [Lit.wf, IntKind.min, IntKind.max, IntKind.signed, IntKind.bits] at hw; omega
              · exact hp a ha
    obtain ⟨p, rfl, hp⟩ := key xs h
    exact ⟨p, rfl, by simpa [bytesR] using hl, hp⟩
theorem rows_of {x : Dv} (h : HasTy (.sl [.int .i64, .sl [.int .u8]]) x) : ∃ l : List Row, x = .sl 2 (rowsR l) ∧ l.length ≤ maxLen ∧ ∀ r ∈ l, goodRow r := by
  cases h with
  | sl _ xs hl h =>
    have key : ∀ (xs : List (List Dv)), (∀ row ∈ xs, HasTys [.int .i64, .sl [.int .u8]] row) → ∃ l : List Row, xs = rowsR l ∧ ∀ r ∈ l, goodRow r := by
      intro xs
      induction xs with
      | nil => exact fun _ => ⟨[], rfl, fun a h => by cases h⟩
      | cons row xs ih =>
        intro h
        obtain ⟨l, rfl, hp⟩ := ih fun r hr => h r (List.mem_cons_of_mem _ hr)
        have h0 := h row (List.mem_cons_self ..)
        cases h0 with
        | cons h1 h2 => cases h2 with
          | cons h2 h3 => cases h3 with
            | nil => cases h1 with
              | int _ n hw =>
                obtain ⟨p, rfl, h4, h5⟩ := bytes_of h2
                refine ⟨(n, p) :: l, rfl, fun r hr => ?_⟩
                rcases List.mem_cons.1 hr with rfl | hr
                · exact ⟨h4, h5⟩
                · exact hp r hr
    obtain ⟨l, rfl, hp⟩ := key xs h
    exact ⟨l, rfl, by simpa [rowsR] using hl, hp⟩

end Go.Proofs.YtkjmhfbjdeidjaaDoor.Am

namespace Go.Proofs.YtkjmhfbjdeidjaaDoor.Am
set_option linter.unusedVariables false
open Go Go.RowKit Go.Proofs Go.ChangeShapes Go.WideShapes Go.ChangeAt

/-! ### the listed variables -/
def laid3 : List (String × DataW Unit) := [("math/bits.deBruijn32tab", Rows.laid_math_bits_deBruijn32tab), ("math/bits.deBruijn64tab", Rows.laid_math_bits_deBruijn64tab), ("slotmesh/random.steps", Rows.laid_slotmesh_random_steps)]
theorem gn0 : Tryd.prog.globalNamed "math/bits.deBruijn32tab" = some 0 := by kernel_rfl
theorem gn1 : Tryd.prog.globalNamed "math/bits.deBruijn64tab" = some 1 := by kernel_rfl
theorem gn2 : Tryd.prog.globalNamed "slotmesh/random.steps" = some 2 := by kernel_rfl
theorem flat_of {P : Program} {g n t : Nat} (h : (P.globals[g]?).map (·.type) = some t) (k : (((P.globals[g]?).map (·.type)).bind (flat P n)).isSome = true) : ∃ tys, flat P n t = some tys := by
  rw [h] at k; exact Option.isSome_iff_exists.1 k
theorem fl0 : (((Tryd.prog.globals[0]?).map (·.type)).bind (flat Tryd.prog 9)).isSome = true := by kernel_rfl
theorem fl1 : (((Tryd.prog.globals[1]?).map (·.type)).bind (flat Tryd.prog 9)).isSome = true := by kernel_rfl
theorem fl2 : (((Tryd.prog.globals[2]?).map (·.type)).bind (flat Tryd.prog 9)).isSome = true := by kernel_rfl
theorem glob_met {W : World} (h : laidMetH Tryd.prog laid3 W) : Glob (AllOf W) W := by
  rw [MakeChecks.laidMetH_plain _ _ _ (by kernel_rfl)] at h
  obtain ⟨ps, ⟨g0, t0, cs0, f0, p0, q0, hg0, ht0, hv0, hd0, ⟨g1, t1, cs1, f1, p1, q1, hg1, ht1, hv1, hd1, ⟨g2, t2, cs2, f2, p2, q2, hg2, ht2, hv2, hd2, _, _⟩, _⟩, _⟩, _, _⟩ := h
  obtain rfl := Option.some.inj (gn0.symm.trans hg0)
  obtain rfl := Option.some.inj (gn1.symm.trans hg1)
  obtain rfl := Option.some.inj (gn2.symm.trans hg2)
  have e0 := flat_of ht0 fl0
  have e1 := flat_of ht1 fl1
  have e2 := flat_of ht2 fl2
  obtain ⟨tys0, e0⟩ := e0
  obtain ⟨tys1, e1⟩ := e1
  obtain ⟨tys2, e2⟩ := e2
  have v0 := var_at gn0 hv0 hd0 e0 (k := 9) (vs := laidTable 0) (by kernel_rfl)
  have v1 := var_at gn1 hv1 hd1 e1 (k := 9) (vs := laidTable 1) (by kernel_rfl)
  have v2 := var_at gn2 hv2 hd2 e2 (k := 9) (vs := laidTable 2) (by kernel_rfl)
  have one : ∀ g, g < 3 → ∀ v ∈ laidTable g, v.oneCell' = true := by
    have : (List.range 3).all (fun g => (laidTable g).all fun v => v.oneCell') = true := by kernel_rfl
    intro g hg v hv
    exact List.all_eq_true.1 (List.all_eq_true.1 this g (List.mem_range.2 hg)) v hv
  refine glob_of fun g hg j v hj => ?_
  match g, hg with
  | 0, _ => exact ⟨v0 j v hj, one 0 (by omega) v (List.mem_of_getElem? hj)⟩
  | 1, _ => exact ⟨v1 j v hj, one 1 (by omega) v (List.mem_of_getElem? hj)⟩
  | 2, _ => exact ⟨v2 j v hj, one 2 (by omega) v (List.mem_of_getElem? hj)⟩
  | n + 3, hg => exact absurd rfl hg
theorem door_met (os : Os) (args : Array Value) : laidMetH Tryd.prog laid3 ((World.doorLaid Tryd.prog 400 os).forCall (fun _ _ => 0) ⟨#[], args, []⟩).memory :=
  laidMetH_of_parts3 (fuel := 8) (laidMet_of_run' 8 (by kernel_rfl) (by kernel_rfl)) (by kernel_rfl) (by kernel_rfl)
theorem ints_of {x : Dv} (h : HasTy (.sl [.int .i64]) x) : ∃ p : List Int, x = .sl 1 (p.map fun x => [i64 x]) ∧ p.length ≤ maxLen ∧ True := by
  cases h with
  | sl _ xs hl h =>
    have key : ∀ (xs : List (List Dv)), (∀ row ∈ xs, HasTys [.int .i64] row) → ∃ p : List Int, xs = p.map fun x => [i64 x] := by
      intro xs
      induction xs with
      | nil => exact fun _ => ⟨[], rfl⟩
      | cons row xs ih =>
        intro h
        obtain ⟨p, rfl⟩ := ih fun r hr => h r (List.mem_cons_of_mem _ hr)
        have h0 := h row (List.mem_cons_self ..)
        cases h0 with
        | cons h1 h2 => cases h2 with
          | nil => cases h1 with
            | int _ n hw => exact ⟨n :: p, rfl⟩
    obtain ⟨p, rfl⟩ := key xs h
    exact ⟨p, rfl, by simpa using hl, trivial⟩
theorem flatB : flat Tryd.prog 20 22 = some [.sl [.int .u8]] := by kernel_rfl
theorem flatI : flat Tryd.prog 20 41 = some [.sl [.int .i64]] := by kernel_rfl
end Go.Proofs.YtkjmhfbjdeidjaaDoor.Am

namespace Go.Proofs.YtkjmhfbjdeidjaaDoor.Am
set_option linter.unusedVariables false
open Go Go.RowKit Go.Proofs

/-! ### Next -/
def mixS (x s f : Int) : Int := IntKind.wrap .u64 (IntKind.wrap .u64 ((BitVec.ofInt 64 x ^^^ BitVec.ofInt 64 (x.fdiv s)).toNat : Int) * f)
def nextS (x : Int) : Int := mixS (mixS (mixS (IntKind.wrap .u64 (x + 11400714819323198485)) 1073741824 13787848793156543929) 134217728 10723151780598845931) 2147483648 1
def halfS (x : Int) : Int := IntKind.wrap .i64 (x.fdiv 4294967296)
def firstS (x : Int) : Int := halfS (nextS x)
section
variable {β : Type} (wl : WLT β) (y : YieldT β) (b : β) (R : AV → β → Prop)
theorem f67_nf (x : Int) : wpFn Tryd.prog ⟨[], [], wl, y, true⟩ 100 Tryd.f67 [.d (u64 x)] b R = R (.d (u64 (nextS x))) b := by kernel_rfl
end
theorem pc67 (x : Int) : PCall Tryd.prog 67 [.d (u64 x)] (.d (u64 (nextS x))) := by
  refine PCall.ofFn (n := 100) (u := true) mixed CallsOk.nil SCallsOk.nil Tryd.func67 (by rfl) (by rfl) fun Ev bb => ?_
  rw [f67_nf]
def c67 (args : List AV) (K : AV → Prop) : Prop := ∃ (x : Int), args = [.d (u64 x)] ∧ K (.d (u64 (nextS x)))
theorem c67_ok : ∀ args K, c67 args K → ∃ x, PCall Tryd.prog 67 args x ∧ K x := by
  rintro _ K ⟨x, rfl, h⟩; exact ⟨_, pc67 x, h⟩

/-! ### halves -/
/-- the states from x on, n of them at most -/
def HSp {β : Type} (Y : YieldT β) : Nat → Int → β → (β → Prop) → Prop
  | 0, _, _, _ => False
  | n + 1, x, b, Q => Y b [.d (i64 (halfS x))] fun cont b' => BIf cont (HSp Y n (nextS x) b' Q) (Q b')
def cellU (x : Int) : Blk := ⟨[.d (u64 x)], false, false, 0⟩
noncomputable def lp66 : Code := sub [1, 2, 3] (code Tryd.f66)
def tm66 : List AV := [.yl, .ptr 0 0] ++ List.replicate 10 .bad
def T66 : List (Nat × (List AV → (AV → Prop) → Prop)) := [(67, c67)]
theorem T66_ok : CallsOk Tryd.prog T66 := CallsOk.cons c67_ok CallsOk.nil
section
variable {β : Type} (wl : WLT β) (y : YieldT β) (b : β) (R : AV → β → Prop) (K : Exit → List AV → List Blk → β → Prop)
theorem f66_round (x : Int) : wpc Tryd.prog ⟨T66, [], wl, y, false⟩ 100 lp66 tm66 [cellU x] b (maskT [0, 1] K) = (
  y b [AV.d (i64 (halfS x))] fun cont0 b1 => BIf cont0 (∃ x2 : Int, [AV.d (u64 x)] = [AV.d (u64 x2)] ∧ K .normal tm66 [cellU (nextS x2)] b1) (K (.exit 0) tm66 [cellU x] b1)) := by kernel_rfl
end
def wl66 {β : Type} (y : YieldT β) : WLT β := fun c tm hp b K => ∃ (n : Nat) (x : Int), c = .loop lp66 ∧ maskTm [0, 1] 0 tm = tm66 ∧ hp = [cellU x] ∧ HSp y n x b fun b' => ∀ z, K (.exit 0) tm66 [cellU z] b'
theorem HSp.yoke {Ev : Env Tryd.prog} {Q Q' : Ev.β → Prop} (hq : ∀ b, Q b → Q' b) : ∀ (n : Nat) (x : Int) (b : Ev.β), HSp Ev.Y n x b Q → HSp Ev.Y n x b Q'
  | 0, _, _, h => h.elim
  | n + 1, x, b, h => Ev.Ymono h fun c b' h => by
    cases c with
    | true => exact HSp.yoke hq n _ _ h
    | false => exact hq _ h
theorem wr66 {Ev : Env Tryd.prog} {Q : Exit → St Ev.β → Prop} : ∀ (n : Nat) (x : Int) (b : Ev.β), (HSp Ev.Y n x b fun b' => ∀ z, Q (.exit 0) ⟨tm66, [cellU z], b'⟩) → WR Ev lp66 n ⟨tm66, [cellU x], b⟩ Q
  | 0, _, _, h => h.elim
  | n + 1, x, b, h => by
    refine WR.ofMaskT [0, 1] mixed (CX.Ok.of (u := false) T66_ok SCallsOk.nil) (k := 100) ?_
    rw [f66_round]
    refine Ev.Ymono h fun c b' h => ?_
    cases c with
    | true => exact ⟨x, rfl, wr66 n _ _ h⟩
    | false => exact h _
theorem wl66_ok {Ev : Env Tryd.prog} (c : Code) (tm : List AV) (hp : List Blk) (b : Ev.β) (K : Exit → List AV → List Blk → Ev.β → Prop) (h : wl66 Ev.Y c tm hp b K) : W Ev c ⟨tm, hp, b⟩ (fun e s => K e s.tm s.hp s.b) := by
  obtain ⟨n, x, rfl, htm, rfl, hK⟩ := h
  refine W.cast (htm ▸ maskTm_le _ tm 0) (LeH.refl _) ?_
  exact W.rounds (wr66 (Q := fun e s => K e s.tm s.hp s.b) n x b hK)
section
variable {β : Type} (y : YieldT β) (b : β) (Q : β → Prop)
theorem f66_nf (x : Int) : wpc Tryd.prog ⟨T66, [], wl66 y, y, false⟩ 100 (code Tryd.f66) (startTm Tryd.f66 [.yl, .ptr 0 0]) [cellU x] b (fnK Tryd.prog Tryd.f66 fun _ b => Q b) = (
  ∃ x0 : Int, [AV.d (u64 x)] = [AV.d (u64 x0)] ∧ ∃ (n : Nat) (z : Int), Code.loop lp66 = .loop lp66 ∧ tm66 = tm66 ∧ [cellU (nextS x0)] = [cellU z] ∧ HSp y n z b fun b' => ∀ _ : Int, Q b') := by kernel_rfl
end
def halvesSp (x : Int) : SpT := fun Y b Q => ∃ n, HSp Y n (nextS x) b Q
theorem ic66 (x : Int) : ICallB Tryd.prog 66 [.yl, .ptr 0 0] (cellU x) (halvesSp x) := by
  refine ICallB.ofW (c := code Tryd.f66) Tryd.func66 rfl rfl fun Ev b Q h => ?_
  obtain ⟨n, h⟩ := h
  have h1 : wpc Tryd.prog ⟨T66, [], wl66 Ev.Y, Ev.Y, false⟩ 100 (code Tryd.f66) (startTm Tryd.f66 [.yl, .ptr 0 0]) [cellU x] b (fnK Tryd.prog Tryd.f66 fun _ b => Q b) := by
    rw [f66_nf]
    exact ⟨x, rfl, n, _, rfl, rfl, rfl, HSp.yoke (fun b h _ => h) _ _ _ h⟩
  refine wpc_sound mixed (CX.Ok.ofWl T66_ok SCallsOk.nil wl66_ok) h1 fun e tm hp b hK => ?_
  obtain ⟨g1, ys, g2, z, g3, g4⟩ := fnK_sound hK
  exact ⟨g1, ys, g2, g4⟩

/-! ### halves, first -/
section
variable {β : Type} (wl : WLT β) (y : YieldT β) (b : β) (R : AV → List Blk → β → Prop)
theorem f63_nf (x : Int) : wpFnS Tryd.prog ⟨[], [], wl, y, false⟩ 100 Tryd.f63 [.d (u64 x)] b R = R (.fn (.func 66) [] [.ptr 0 0]) [cellU x] b := by kernel_rfl
end
theorem fc63 (x : Int) : FCall Tryd.prog 63 [.d (u64 x)] (.fn (.func 66) [] [.ptr 0 0]) [cellU x] := by
  refine FCall.ofFnW (n := 100) (u := false) (fun _ => fun _ _ _ _ _ => False) mixed CallsOk.nil SCallsOk.nil (fun Ev _ _ _ _ _ h => h.elim) Tryd.func63 (by rfl) (by rfl) (by rfl) fun Ev bb => ?_
  rw [f63_nf]
  exact ⟨rfl, rfl⟩
def s63 (args : List AV) (hp : List Blk) (K : AV → List Blk → Prop) : Prop := ∃ (x : Int), args = [.d (u64 x)] ∧ K (.fn (.func 66) [] [.ptr hp.length 0]) (hp ++ [cellU x])
theorem s63_ok : ∀ args hp K, s63 args hp K → ∃ x hp', SCall Tryd.prog 63 args hp x hp' ∧ K x hp' := by
  rintro _ hp K ⟨x, rfl, h⟩
  exact ⟨_, _, (fc63 x).toS rfl hp, by simpa [shift, shifts, shiftH, shiftB, cellU] using h⟩

def T58 : List (Nat × (List AV → List Blk → (AV → List Blk → Prop) → Prop)) := [(63, s63)]
theorem SCallsOk.cons {P : Program} {k : Nat} {f : List AV → List Blk → (AV → List Blk → Prop) → Prop} {T : List (Nat × (List AV → List Blk → (AV → List Blk → Prop) → Prop))} (h : ∀ args hp K, f args hp K → ∃ x hp', SCall P k args hp x hp' ∧ K x hp') (hT : SCallsOk P T) : SCallsOk P ((k, f) :: T) := by
  intro j g hj
  simp only [List.lookup] at hj
  split at hj
  · rename_i he
    have : j = k := by simpa using he
    subst this
    cases hj; exact h
  · exact hT j g hj
theorem T58_ok : SCallsOk Tryd.prog T58 := SCallsOk.cons s63_ok SCallsOk.nil
noncomputable def rf58 : Code := sub [1, 0, 1, 2] (code Tryd.f58)
def cellI (x : Int) : Blk := ⟨[.d (i64 x)], false, false, 0⟩
def tm58 (x : Int) : List AV := [.d (u64 x), .bad, .ptr 0 0, .bad, .bad, .fn (.func 66) [] [.ptr 1 0], .bad, .bad]
section
variable {β : Type} (wl : WLT β) (y : YieldT β) (b : β) (K : Exit → List AV → List Blk → β → Prop)
theorem f58_a (x : Int) : wpc Tryd.prog ⟨[], T58, wl, y, false⟩ 100 (sub [0] (code Tryd.f58)) (startTm Tryd.f58 [.d (u64 x)]) [] b K = K .normal [.d (u64 x), .bad, .ptr 0 0, .bad, .bad, .bad, .bad, .bad] [cellI 0] b := by kernel_rfl
theorem f58_b (x : Int) : wpc Tryd.prog ⟨[], T58, wl, y, false⟩ 100 (sub [1, 0, 0] (code Tryd.f58)) [.d (u64 x), .bad, .ptr 0 0, .bad, .bad, .bad, .bad, .bad] [cellI 0] b (maskT [0, 2, 5] K) = (
  ∃ x0 : Int, [AV.d (u64 x)] = [.d (u64 x0)] ∧ K .normal (tm58 x) [cellI 0, cellU x0] b) := by kernel_rfl
theorem f58_c (x h : Int) (K : Exit → List Blk → β → Prop) : wpcY Tryd.prog ⟨[], [], wl, y, false⟩ 100 #[6] (assignOf rf58) (bodyOf rf58) (lowTm 1 (tm58 x)) [.d (i64 h)] [cellI 0] b (takeK 1 K) = K .ret [cellI h] b := by kernel_rfl
end
theorem rf58_shape : rf58 = .rangeFunc (.tmp 5) #[6] (assignOf rf58) (bodyOf rf58) := by kernel_rfl
theorem f58_shape : code Tryd.f58 = .seq (sub [0] (code Tryd.f58)) (.seq (.seq (sub [1, 0, 0] (code Tryd.f58)) (.block 0 rf58)) (sub [1, 1] (code Tryd.f58))) := by kernel_rfl
theorem f58_res (x y : Int) : resAs Tryd.prog [cellI x] (lowTm 1 (tm58 y)) Tryd.f58.results.toList = some [.d (i64 x)] := by kernel_rfl
theorem pc58 (x : Int) : PCall Tryd.prog 58 [.d (u64 x)] (.d (i64 (firstS x))) := by
  refine PCall.ofW0 (x0 := i64 (firstS x)) (c := code Tryd.f58) Tryd.func58 rfl rfl rfl fun Ev b => ?_
  rw [f58_shape]
  refine W0.seq (W0.of (wpc_sound mixed (CX.Ok.of (u := false) CallsOk.nil T58_ok) (n := 100) (K := thenK (fun tm hp b' => tm = [.d (u64 x), .bad, .ptr 0 0, .bad, .bad, .bad, .bad, .bad] ∧ hp = [cellI 0]) fun _ _ _ _ => False) ?_ ?_))
  · rw [f58_a]; exact ⟨rfl, rfl⟩
  intro e tm hp b' h
  cases e <;> first | exact h.elim | skip
  obtain ⟨rfl, rfl⟩ := h
  refine W0.seq (W0.seq (W0.of (W.castPost (wpc_sound mixed (CX.Ok.of (u := false) CallsOk.nil T58_ok) (n := 100) (K := maskT [0, 2, 5] (thenK (fun tm hp b' => tm = tm58 x ∧ hp = [cellI 0, cellU x]) fun _ _ _ _ => False)) ?_ ?_))))
  · rw [f58_b]; exact ⟨x, rfl, rfl, rfl⟩
  intro e tm hp b' h
  refine ⟨_, _, maskTm_le [0, 2, 5] tm 0, LeH.refl _, ?_⟩
  cases e <;> first | exact h.elim | skip
  obtain ⟨h1, rfl⟩ := h
  show W0 Ev _ _ _
  rw [h1]
  refine W0.block ?_
  rw [rf58_shape]
  refine W0.range (hp0 := [cellI 0]) (blk := cellU x) rfl rfl rfl rfl rfl rfl rfl (ic66 x) ?_
  refine ⟨1, ?_⟩
  refine YBody.ofWp (k := 100) (X := ⟨[], [], wlW Ev, Ev.Y, false⟩) (K := takeK 1 fun e hp b' => e = .ret ∧ hp = [cellI (firstS x)]) mixed (CX.Ok.of CallsOk.nil SCallsOk.nil) rfl ?_ ?_
  · show wpcY _ _ _ _ _ _ (lowTm 1 (tm58 x)) [.d (i64 (halfS (nextS x)))] [cellI 0] _ _
    rw [f58_c]; exact ⟨rfl, rfl⟩
  intro e tm hp b' h
  obtain ⟨h1, h2, h3⟩ := h.elim'
  subst h2
  refine ⟨h1, ?_⟩
  refine BIf.f rfl ?_
  have h4 : List.take [cellI 0].length hp = [cellI (firstS x)] := h3
  rw [h4]
  exact ⟨.inl rfl, _, f58_res _ x, rfl, rfl⟩
def c58 (args : List AV) (K : AV → Prop) : Prop := ∃ (x : Int), args = [.d (u64 x)] ∧ K (.d (i64 (firstS x)))
theorem c58_ok : ∀ args K, c58 args K → ∃ x, PCall Tryd.prog 58 args x ∧ K x := by
  rintro _ K ⟨x, rfl, h⟩; exact ⟨_, pc58 x, h⟩
end Go.Proofs.YtkjmhfbjdeidjaaDoor.Am

namespace Go.Proofs.YtkjmhfbjdeidjaaDoor.Am
set_option linter.unusedVariables false
open Go Go.RowKit Go.Proofs

theorem wrap_u64_range (x : Int) : 0 ≤ IntKind.wrap .u64 x ∧ IntKind.wrap .u64 x < 18446744073709551616 := by
  have : IntKind.wrap .u64 x = x % 18446744073709551616 := by simp [IntKind.wrap, IntKind.signed, IntKind.bits]
  rw [this]; omega
theorem nextS_range (x : Int) : 0 ≤ nextS x ∧ nextS x < 18446744073709551616 := wrap_u64_range _
theorem halfS_range {x : Int} (h0 : 0 ≤ x) (h1 : x < 18446744073709551616) : halfS x = x / 4294967296 ∧ 0 ≤ halfS x ∧ halfS x < 4294967296 := by
  have e : x.fdiv 4294967296 = x / 4294967296 := by rw [Int.fdiv_eq_ediv_of_nonneg _ (by omega)]
  have h : halfS x = x / 4294967296 := by
    unfold halfS
    rw [e, wrap_i64 (by omega) (by omega)]
  rw [h]; omega
theorem firstS_range (x : Int) : 0 ≤ firstS x ∧ firstS x < 4294967296 := (halfS_range (nextS_range x).1 (nextS_range x).2).2
def maskS (x : Int) : Int := 1 + firstS x % 65535
theorem maskS_range (x : Int) : 1 ≤ maskS x ∧ maskS x ≤ 65535 := by unfold maskS; omega
theorem maskS_eq (x : Int) : IntKind.wrap .i64 (1 + Int.tmod (firstS x) (IntKind.wrap .i64 (IntKind.wrap .i64 (1 * 2 ^ min (Int.toNat 16) 64) - 1))) = maskS x := by
  have h1 : IntKind.wrap .i64 (IntKind.wrap .i64 (1 * 2 ^ min (Int.toNat 16) 64) - 1) = 65535 := by decide
  have h := firstS_range x
  have h2 := maskS_range x
  rw [h1, Int.tmod_eq_emod_of_nonneg h.1]
  exact wrap_i64 (by unfold maskS at h2; omega) (by unfold maskS at h2; omega)

/-! ### Mask, Set -/
def TMask : List (Nat × (List AV → (AV → Prop) → Prop)) := [(58, c58)]
theorem TMask_ok : CallsOk Tryd.prog TMask := CallsOk.cons c58_ok CallsOk.nil
section
variable {β : Type} (wl : WLT β) (y : YieldT β) (b : β) (R : AV → β → Prop)
theorem mask_nf (x : Int) : wpFn Tryd.prog ⟨TMask, [], wl, y, false⟩ 100 Tryd.f40 [.d (u64 x), .d (i64 16)] b R = (
  ∃ x0 : Int, [AV.d (u64 x)] = [.d (u64 x0)] ∧ R (.d (i64 (IntKind.wrap .i64 (1 + Int.tmod (firstS x0) (IntKind.wrap .i64 (IntKind.wrap .i64 (1 * 2 ^ min (Int.toNat 16) 64) - 1)))))) b) := by kernel_rfl
theorem isSeed_nf (x : Int) : wpFn Tryd.prog ⟨[], [], wl, y, false⟩ 100 Tryd.f29 [.d (i64 x)] b R = (
  BIf (decide (x ≥ 0)) (R (.d (bo (decide (x ≤ 1000000000)))) b) (R (.d (bo false)) b)) := by kernel_rfl
theorem seedR_nf (x : Int) : wpFn Tryd.prog ⟨[], [], wl, y, false⟩ 100 Tryd.f25 [.d (i64 x)] b R = (
  BIf (decide (x ≥ 0)) (R (.d (bo (decide (x ≤ 1000000000)))) b) (R (.d (bo false)) b)) := by kernel_rfl
theorem isPage_nf (x : Int) : wpFn Tryd.prog ⟨[], [], wl, y, false⟩ 100 Tryd.f28 [.d (i64 x)] b R = (
  BIf (decide (x ≥ 0)) (R (.d (bo (decide (x < 16)))) b) (R (.d (bo false)) b)) := by kernel_rfl
end
theorem pcMask (x : Int) : PCall Tryd.prog 40 [.d (u64 x), .d (i64 16)] (.d (i64 (maskS x))) := by
  refine PCall.ofFn (n := 100) (u := false) mixed TMask_ok SCallsOk.nil Tryd.func40 (by rfl) (by rfl) fun Ev bb => ?_
  rw [mask_nf]
  exact ⟨x, rfl, by rw [maskS_eq]⟩
def cMask (args : List AV) (K : AV → Prop) : Prop := ∃ (x : Int), args = [.d (u64 x), .d (i64 16)] ∧ K (.d (i64 (maskS x)))
theorem cMask_ok : ∀ args K, cMask args K → ∃ x, PCall Tryd.prog 40 args x ∧ K x := by
  rintro _ K ⟨x, rfl, h⟩; exact ⟨_, pcMask x, h⟩
def seedS (x : Int) : Bool := decide (0 ≤ x) && decide (x ≤ 1000000000)
def pageS (x : Int) : Bool := decide (0 ≤ x) && decide (x < 16)
theorem bif_and {x : Int} {q : Bool} {R : AV → Prop} (h : R (.d (bo (decide (0 ≤ x) && q)))) : BIf (decide (x ≥ 0)) (R (.d (bo q))) (R (.d (bo false))) := by
  by_cases h0 : 0 ≤ x
  · exact BIf.t (by simpa using h0) (by simpa [h0] using h)
  · exact BIf.f (by simpa using h0) (by simpa [h0] using h)
theorem pcIsSeed (x : Int) : PCall Tryd.prog 29 [.d (i64 x)] (.d (bo (seedS x))) := by
  refine PCall.ofFn (n := 100) (u := false) mixed CallsOk.nil SCallsOk.nil Tryd.func29 (by rfl) (by rfl) fun Ev bb => ?_
  rw [isSeed_nf]
  exact bif_and (R := fun y => y = _) rfl
theorem pcSeedR (x : Int) : PCall Tryd.prog 25 [.d (i64 x)] (.d (bo (seedS x))) := by
  refine PCall.ofFn (n := 100) (u := false) mixed CallsOk.nil SCallsOk.nil Tryd.func25 (by rfl) (by rfl) fun Ev bb => ?_
  rw [seedR_nf]
  exact bif_and (R := fun y => y = _) rfl
theorem pcIsPage (x : Int) : PCall Tryd.prog 28 [.d (i64 x)] (.d (bo (pageS x))) := by
  refine PCall.ofFn (n := 100) (u := false) mixed CallsOk.nil SCallsOk.nil Tryd.func28 (by rfl) (by rfl) fun Ev bb => ?_
  rw [isPage_nf]
  exact bif_and (R := fun y => y = _) rfl
def cSeed (args : List AV) (K : AV → Prop) : Prop := ∃ (x : Int), args = [.d (i64 x)] ∧ K (.d (bo (seedS x)))
theorem cIsSeed_ok : ∀ args K, cSeed args K → ∃ x, PCall Tryd.prog 29 args x ∧ K x := by
  rintro _ K ⟨x, rfl, h⟩; exact ⟨_, pcIsSeed x, h⟩
theorem cSeedR_ok : ∀ args K, cSeed args K → ∃ x, PCall Tryd.prog 25 args x ∧ K x := by
  rintro _ K ⟨x, rfl, h⟩; exact ⟨_, pcSeedR x, h⟩
def cIsPage (args : List AV) (K : AV → Prop) : Prop := ∃ (x : Int), args = [.d (i64 x)] ∧ K (.d (bo (pageS x)))
theorem cIsPage_ok : ∀ args K, cIsPage args K → ∃ x, PCall Tryd.prog 28 args x ∧ K x := by
  rintro _ K ⟨x, rfl, h⟩; exact ⟨_, pcIsPage x, h⟩
def setS (x : Int) : Int := if seedS x = false then 0 else if x < 16 then 2 ^ x.toNat else maskS x
def TSet : List (Nat × (List AV → (AV → Prop) → Prop)) := [(29, cSeed), (40, cMask)]
theorem TSet_ok : CallsOk Tryd.prog TSet := CallsOk.cons cIsSeed_ok (CallsOk.cons cMask_ok CallsOk.nil)
section
variable {β : Type} (wl : WLT β) (y : YieldT β) (b : β) (R : AV → β → Prop)
theorem set_nf (x : Int) : wpFn Tryd.prog ⟨TSet, [], wl, y, false⟩ 100 Tryd.f18 [.d (i64 x)] b R = (
  ∃ x0 : Int, [AV.d (i64 x)] = [.d (i64 x0)] ∧ BIf (!seedS x0) (R (.d (i64 0)) b) (BIf (decide (x < 16)) (BIf (decide (x < 0)) False (R (.d (i64 (IntKind.wrap .i64 (1 * 2 ^ min (Int.toNat x) 64)))) b))
    (∃ x1 : Int, [AV.d (u64 (IntKind.wrap .u64 x)), .d (i64 16)] = [.d (u64 x1), .d (i64 16)] ∧ R (.d (i64 (maskS x1))) b))) := by kernel_rfl
end
theorem seedS_iff {x : Int} : seedS x = true ↔ 0 ≤ x ∧ x ≤ 1000000000 := by simp [seedS]
theorem shl_small {x : Int} (h0 : 0 ≤ x) (h1 : x < 16) : IntKind.wrap .i64 (1 * 2 ^ min (Int.toNat x) 64) = 2 ^ x.toNat := by
  obtain ⟨n, rfl⟩ := Int.eq_ofNat_of_zero_le h0
  have hn : n < 16 := by omega
  have h2 : ∀ m : Fin 16, IntKind.wrap .i64 (1 * 2 ^ min (Int.toNat ((m.val : Nat) : Int)) 64) = 2 ^ Int.toNat ((m.val : Nat) : Int) := by decide
  exact h2 ⟨n, hn⟩
theorem setS_cases (x : Int) {R : AV → Prop} (h : R (.d (i64 (setS x)))) : BIf (!seedS x) (R (.d (i64 0))) (BIf (decide (x < 16)) (BIf (decide (x < 0)) False (R (.d (i64 (IntKind.wrap .i64 (1 * 2 ^ min (Int.toNat x) 64))))))
    (∃ x1 : Int, [AV.d (u64 (IntKind.wrap .u64 x)), .d (i64 16)] = [.d (u64 x1), .d (i64 16)] ∧ R (.d (i64 (maskS x1))))) := by
  by_cases hs : seedS x = true
  · obtain ⟨h0, h1⟩ := seedS_iff.1 hs
    refine BIf.f (by simp [hs]) ?_
    by_cases hx : x < 16
    · refine BIf.t (by simpa using hx) (BIf.f (by simp; omega) ?_)
      rw [shl_small h0 hx]
      simpa [setS, hs, hx] using h
    · refine BIf.f (by simpa using hx) ⟨x, by rw [wrap_u64 h0 (by omega)], by simpa [setS, hs, hx] using h⟩
  · simp only [Bool.not_eq_true] at hs
    exact BIf.t (by simp [hs]) (by simpa [setS, hs] using h)
theorem pcSet (x : Int) : PCall Tryd.prog 18 [.d (i64 x)] (.d (i64 (setS x))) := by
  refine PCall.ofFn (n := 100) (u := false) mixed TSet_ok SCallsOk.nil Tryd.func18 (by rfl) (by rfl) fun Ev bb => ?_
  rw [set_nf]
  exact ⟨x, rfl, setS_cases x (R := fun y => y = _) rfl⟩
def cSet (args : List AV) (K : AV → Prop) : Prop := ∃ (x z : Int), args = [.d (i64 x)] ∧ z = setS x ∧ K (.d (i64 z))
theorem cSet_ok : ∀ args K, cSet args K → ∃ x, PCall Tryd.prog 18 args x ∧ K x := by
  rintro _ K ⟨x, z, rfl, rfl, h⟩; exact ⟨_, pcSet x, h⟩

/-! ### the reference's -/
def nextR (x : Int) : Int := IntKind.wrap .u64 ((BitVec.ofInt 64 (mixS (mixS (IntKind.wrap .u64 (x + 11400714819323198485)) 1073741824 13787848793156543929) 134217728 10723151780598845931) ^^^
  BitVec.ofInt 64 ((mixS (mixS (IntKind.wrap .u64 (x + 11400714819323198485)) 1073741824 13787848793156543929) 134217728 10723151780598845931).fdiv 2147483648)).toNat : Int)
theorem nextR_eq (x : Int) : nextR x = nextS x := by
  unfold nextR nextS
  generalize mixS (mixS (IntKind.wrap .u64 (x + 11400714819323198485)) 1073741824 13787848793156543929) 134217728 10723151780598845931 = z
  unfold mixS
  rw [Int.mul_one]
  have := wrap_u64_range ((BitVec.ofInt 64 z ^^^ BitVec.ofInt 64 (z.fdiv 2147483648)).toNat : Int)
  rw [wrap_u64 this.1 this.2]
section
variable {β : Type} (wl : WLT β) (y : YieldT β) (b : β) (R : AV → β → Prop)
theorem nextR_nf (x : Int) : wpFn Tryd.prog ⟨[], [], wl, y, false⟩ 100 Tryd.f60 [.d (u64 x)] b R = R (.d (u64 (nextR x))) b := by kernel_rfl
theorem halfR_nf (x : Int) : wpFn Tryd.prog ⟨[], [], wl, y, false⟩ 100 Tryd.f59 [.d (u64 x)] b R = R (.d (i64 (halfS x))) b := by kernel_rfl
end
theorem pcNextR (x : Int) : PCall Tryd.prog 60 [.d (u64 x)] (.d (u64 (nextS x))) := by
  refine PCall.ofFn (n := 100) (u := false) mixed CallsOk.nil SCallsOk.nil Tryd.func60 (by rfl) (by rfl) fun Ev bb => ?_
  rw [nextR_nf, nextR_eq]
theorem pcHalfR (x : Int) : PCall Tryd.prog 59 [.d (u64 x)] (.d (i64 (halfS x))) := by
  refine PCall.ofFn (n := 100) (u := false) mixed CallsOk.nil SCallsOk.nil Tryd.func59 (by rfl) (by rfl) fun Ev bb => ?_
  rw [halfR_nf]
def cNextR (args : List AV) (K : AV → Prop) : Prop := ∃ (x : Int), args = [.d (u64 x)] ∧ K (.d (u64 (nextS x)))
theorem cNextR_ok : ∀ args K, cNextR args K → ∃ x, PCall Tryd.prog 60 args x ∧ K x := by
  rintro _ K ⟨x, rfl, h⟩; exact ⟨_, pcNextR x, h⟩
def cHalfR (args : List AV) (K : AV → Prop) : Prop := ∃ (x : Int), args = [.d (u64 x)] ∧ K (.d (i64 (halfS x)))
theorem cHalfR_ok : ∀ args K, cHalfR args K → ∃ x, PCall Tryd.prog 59 args x ∧ K x := by
  rintro _ K ⟨x, rfl, h⟩; exact ⟨_, pcHalfR x, h⟩
def TMaskR : List (Nat × (List AV → (AV → Prop) → Prop)) := [(60, cNextR), (59, cHalfR)]
theorem TMaskR_ok : CallsOk Tryd.prog TMaskR := CallsOk.cons cNextR_ok (CallsOk.cons cHalfR_ok CallsOk.nil)
section
variable {β : Type} (wl : WLT β) (y : YieldT β) (b : β) (R : AV → β → Prop)
theorem maskR_nf (x : Int) : wpFn Tryd.prog ⟨TMaskR, [], wl, y, false⟩ 100 Tryd.f41 [.d (u64 x), .d (i64 16)] b R = (
  ∃ x0 : Int, [AV.d (u64 x)] = [.d (u64 x0)] ∧ ∃ x1 : Int, [AV.d (u64 (nextS x0))] = [.d (u64 x1)] ∧ R (.d (i64 (IntKind.wrap .i64 (1 + Int.tmod (halfS x1) 65535)))) b) := by kernel_rfl
end
theorem pcMaskR (x : Int) : PCall Tryd.prog 41 [.d (u64 x), .d (i64 16)] (.d (i64 (maskS x))) := by
  refine PCall.ofFn (n := 100) (u := false) mixed TMaskR_ok SCallsOk.nil Tryd.func41 (by rfl) (by rfl) fun Ev bb => ?_
  rw [maskR_nf]
  exact ⟨x, rfl, _, rfl, by rw [← maskS_eq]; rfl⟩
def cMaskR (args : List AV) (K : AV → Prop) : Prop := ∃ (x : Int), args = [.d (u64 x), .d (i64 16)] ∧ K (.d (i64 (maskS x)))
theorem cMaskR_ok : ∀ args K, cMaskR args K → ∃ x, PCall Tryd.prog 41 args x ∧ K x := by
  rintro _ K ⟨x, rfl, h⟩; exact ⟨_, pcMaskR x, h⟩
def TSetR : List (Nat × (List AV → (AV → Prop) → Prop)) := [(25, cSeed), (41, cMaskR)]
theorem TSetR_ok : CallsOk Tryd.prog TSetR := CallsOk.cons cSeedR_ok (CallsOk.cons cMaskR_ok CallsOk.nil)
section
variable {β : Type} (wl : WLT β) (y : YieldT β) (b : β) (R : AV → β → Prop)
theorem setR_nf (x : Int) : wpFn Tryd.prog ⟨TSetR, [], wl, y, false⟩ 100 Tryd.f19 [.d (i64 x)] b R = (
  ∃ x0 : Int, [AV.d (i64 x)] = [.d (i64 x0)] ∧ BIf (!seedS x0) (R (.d (i64 0)) b) (BIf (decide (x < 16)) (BIf (decide (IntKind.wrap .u64 x < 0)) False (R (.d (i64 (IntKind.wrap .i64 (1 * 2 ^ min (Int.toNat (IntKind.wrap .u64 x)) 64)))) b))
    (∃ x1 : Int, [AV.d (u64 (IntKind.wrap .u64 x)), .d (i64 16)] = [.d (u64 x1), .d (i64 16)] ∧ R (.d (i64 (maskS x1))) b))) := by kernel_rfl
end
theorem pcSetR (x : Int) : PCall Tryd.prog 19 [.d (i64 x)] (.d (i64 (setS x))) := by
  refine PCall.ofFn (n := 100) (u := false) mixed TSetR_ok SCallsOk.nil Tryd.func19 (by rfl) (by rfl) fun Ev bb => ?_
  rw [setR_nf]
  refine ⟨x, rfl, ?_⟩
  by_cases h0 : 0 ≤ x ∧ x < 18446744073709551616
  · rw [wrap_u64 h0.1 h0.2]
    have := setS_cases x (R := fun y => y = .d (i64 (setS x))) rfl
    rwa [wrap_u64 h0.1 h0.2] at this
  · have hs : seedS x = false := by
      rw [Bool.eq_false_iff]; intro h; have := seedS_iff.1 h; omega
    exact BIf.t (by simp [hs]) (by simp [setS, hs])
def cSetR (args : List AV) (K : AV → Prop) : Prop := ∃ (x z : Int), args = [.d (i64 x)] ∧ z = setS x ∧ K (.d (i64 z))
theorem cSetR_ok : ∀ args K, cSetR args K → ∃ x, PCall Tryd.prog 19 args x ∧ K x := by
  rintro _ K ⟨x, z, rfl, rfl, h⟩; exact ⟨_, pcSetR x, h⟩
theorem setS_range {x : Int} (h : seedS x = true) : 1 ≤ setS x ∧ setS x ≤ 65535 := by
  obtain ⟨h0, h1⟩ := seedS_iff.1 h
  unfold setS
  simp only [h, Bool.true_eq_false, if_false]
  split
  · rename_i hx
    obtain ⟨n, rfl⟩ := Int.eq_ofNat_of_zero_le h0
    have hn : n < 16 := by omega
    have h2 : ∀ m : Fin 16, (1 : Int) ≤ 2 ^ Int.toNat ((m.val : Nat) : Int) ∧ (2 : Int) ^ Int.toNat ((m.val : Nat) : Int) ≤ 65535 := by decide
    exact h2 ⟨n, hn⟩
  · exact maskS_range x
end Go.Proofs.YtkjmhfbjdeidjaaDoor.Am

/- The kit's shelf laid at this program: bits.TrailingZeros (plain text, written by the kit's lay-plain). -/
namespace Go.Proofs
open Go.Shelf
def Tryd.lays27_ren : Go.Shelf.Ren := ⟨fun | 27 => 32 | 28 => 43 | 29 => 44 | n => n, fun | 25 => 56 | 3 => 3 | 27 => 72 | 22 => 69 | 4 => 4 | 53 => 92 | 0 => 0 | 5 => 5 | 54 => 93 | n => n, fun | 0 => 0 | 1 => 1 | n => n⟩
theorem Tryd.lays27 : Go.Proofs.Lays7.n27 Tryd.prog Tryd.lays27_ren := {
  mixed := by kernel_rfl
  f27 := Tryd.func32.trans (congrArg some (by kernel_rfl))
  f28 := Tryd.func43.trans (congrArg some (by kernel_rfl))
  f29 := Tryd.func44.trans (congrArg some (by kernel_rfl))
  t0 := Tryd.underlying0
  a0 := Tryd.isAgg0
  z0 := Tryd.sizeOf0
  v0 := Tryd.zeroValue0
  i0 := by kernel_rfl
  t3 := Tryd.underlying3
  a3 := Tryd.isAgg3
  z3 := Tryd.sizeOf3
  v3 := Tryd.zeroValue3
  i3 := by kernel_rfl
  t4 := Tryd.underlying4
  a4 := Tryd.isAgg4
  z4 := Tryd.sizeOf4
  v4 := Tryd.zeroValue4
  i4 := by kernel_rfl
  t5 := Tryd.underlying5
  a5 := Tryd.isAgg5
  z5 := Tryd.sizeOf5
  v5 := Tryd.zeroValue5
  i5 := by kernel_rfl
  t22 := Tryd.underlying69
  a22 := Tryd.isAgg69
  z22 := Tryd.sizeOf69
  v22 := Tryd.zeroValue69
  i22 := by kernel_rfl
  t25 := Tryd.underlying56
  a25 := Tryd.isAgg56
  z25 := Tryd.sizeOf56
  v25 := Tryd.zeroValue56
  i25 := by kernel_rfl
  t27 := Tryd.underlying72
  a27 := Tryd.isAgg72
  z27 := Tryd.sizeOf72
  v27 := Tryd.zeroValue72
  i27 := by kernel_rfl
  t53 := Tryd.underlying92
  a53 := Tryd.isAgg92
  z53 := Tryd.sizeOf92
  v53 := Tryd.zeroValue92
  i53 := by kernel_rfl
  t54 := Tryd.underlying93
  a54 := Tryd.isAgg93
  z54 := Tryd.sizeOf93
  g0 := by kernel_rfl
  g1 := by kernel_rfl }
end Go.Proofs

namespace Go.Proofs.YtkjmhfbjdeidjaaDoor.Am
set_option linter.unusedVariables false
open Go Go.RowKit Go.Proofs

/-- a contract out of the kit's shelf, that reads package-level variables -/
theorem PCall.ofCallsG {P : Program} {f : Nat} (vals : List Value) {v : Value} (hent : ∀ (us : Array Value) (w : World), (callFunc f us).run P w = .ok (.enter f us) w)
    (h : ∀ S w, Glob S w → Calls P f vals.toArray w fun e w' => e = .returned v ∧ w' = w) : PCall P f (vals.map fun v => .d (.s v)) (ofVal v) := by
  refine ⟨hent, fun S w vs hl hvs hlt hgl => ?_⟩
  have he : vs = vals := by
    apply List.ext_getElem?
    intro i
    by_cases hi : i < vals.length
    · have h1 := hvs i (.d (.s vals[i])) (vs[i]'(by simpa [← hl] using hi)) (by simp [hi]) (by simp)
      cases h1 with
      | d h1 =>
        generalize hv : vs[i]'(by simpa [← hl] using hi) = u at h1
        cases h1
        rw [List.getElem?_eq_some_iff.2 ⟨by simpa [← hl] using hi, hv⟩]
        simp [hi]
    · rw [List.getElem?_eq_none (by simpa [← hl] using hi), List.getElem?_eq_none (by omega)]
  subst he
  refine CallsIn.mono (callsIn_wide.2 (h S w hgl)) ?_
  rintro e w' ⟨rfl, rfl⟩
  exact ⟨v, S, rfl, Below.refl _ _, fun _ _ h => h, fun _ _ h => .inl h, (RV.ofVal v).view⟩

theorem tab64 : laidTable 1 = Lib.deBruijn64tab.map fun (n : Nat) => Value.int .u8 (n : Int) := by rfl
theorem tabAt64 {S : Pr} {w : World} (h : Glob S w) : TabAt 1 Lib.deBruijn64tab w := by
  intro j hj
  have h1 : (laidTable 1)[j]? = some (.int .u8 (Lib.deBruijn64tab.getD j 0)) := by
    rw [tab64, List.getElem?_map, List.getElem?_eq_getElem hj]
    simp [List.getD_eq_getElem?_getD, List.getElem?_eq_getElem hj]
  exact (h 1 j _ h1).2.1
def tzS (x : Int) : Int := (Lib.ctz 64 x.toNat : Int)
theorem pcTz {x : Int} (h0 : 0 ≤ x) (h1 : x < 18446744073709551616) : PCall Tryd.prog 32 [.d (u64 x)] (.d (i64 (tzS x))) := by
  have := PCall.ofCallsG (P := Tryd.prog) (f := 32) [.int .u64 x] (v := .int .i64 (tzS x)) (enters_of (f := 32) Tryd.func32 (by rfl) (by rfl)) fun S w hg => by
    have h2 := Any7.bits_TrailingZeros Tryd.lays27 x.toNat (by omega) w (fun _ => tabAt64 hg)
    rw [Int.toNat_of_nonneg h0] at h2
    exact h2
  exact this
def cTz (args : List AV) (K : AV → Prop) : Prop := ∃ (x z : Int), args = [.d (u64 x)] ∧ ((0 ≤ x ∧ x < 18446744073709551616) ∧ z = tzS x) ∧ K (.d (i64 z))
theorem cTz_ok : ∀ args K, cTz args K → ∃ x, PCall Tryd.prog 32 args x ∧ K x := by
  rintro _ K ⟨x, z, rfl, ⟨⟨h0, h1⟩, rfl⟩, h⟩; exact ⟨_, pcTz h0 h1, h⟩
end Go.Proofs.YtkjmhfbjdeidjaaDoor.Am

namespace Go.Proofs.YtkjmhfbjdeidjaaDoor.Am
set_option linter.unusedVariables false
open Go Go.RowKit Go.Proofs

/-! ### Clone -/
section
variable {β : Type} (wl : WLT β) (y : YieldT β) (b : β) (R : AV → β → Prop)
theorem clone_nf (x : Int) (xs : List (List Dv)) : wpFn Tryd.prog ⟨[], [], wl, y, false⟩ 100 Tryd.f33 [.d (.sl 1 ([u8 x] :: xs))] b R =
  BIf (decide ((0 + List.length ([u8 x] :: xs)) * 1 ≤ 140737488355328)) (R (.d (.sl 1 ([u8 x] :: xs))) b) False := by kernel_rfl
end
theorem pcClone (p : List Int) (h0 : p ≠ []) (h1 : p.length ≤ 140737488355328) : PCall Tryd.prog 33 [.d (.sl 1 (bytesR p))] (.d (.sl 1 (bytesR p))) := by
  cases p with
  | nil => exact absurd rfl h0
  | cons x p =>
    refine PCall.ofFn (n := 100) (u := false) mixed CallsOk.nil SCallsOk.nil Tryd.func33 (by rfl) (by rfl) fun Ev bb => ?_
    show wpFn Tryd.prog _ 100 Tryd.f33 [.d (.sl 1 ([u8 x] :: bytesR p))] bb _
    rw [clone_nf]
    refine BIf.t ?_ rfl
    simp [bytesR] at h1 ⊢; omega
def cClone (args : List AV) (K : AV → Prop) : Prop := ∃ (p : List Int), args = [.d (.sl 1 (bytesR p))] ∧ (p ≠ [] ∧ p.length ≤ 140737488355328) ∧ K (.d (.sl 1 (bytesR p)))
theorem cClone_ok : ∀ args K, cClone args K → ∃ x, PCall Tryd.prog 33 args x ∧ K x := by
  rintro _ K ⟨p, rfl, ⟨h0, h1⟩, h⟩; exact ⟨_, pcClone p h0 h1, h⟩

/-! ### blocks -/
def blkS (p : List Int) (i : Nat) : List Int := (p.drop (16 * i)).take 16
def itemB (p : List Int) (i : Nat) : List AV := [.d (i64 i), .agg (cells16 (blkS p i))]
noncomputable def lp42 : Code := sub [1, 2, 3] (code Tryd.f42)
def tm42 (xs : List (List Dv)) (i : Int) : List AV := [.yl, .rptr [.sl 1 xs], .bad, .bad, .d (i64 i)] ++ List.replicate 13 .bad
section
variable {β : Type} (wl : WLT β) (y : YieldT β) (b : β) (R : AV → β → Prop) (K : Exit → List AV → List Blk → β → Prop)
theorem f42_round (xs : List (List Dv)) (i : Int) : wpc Tryd.prog ⟨[], [], wl, y, false⟩ 100 lp42 (tm42 xs i) [] b (maskT [0, 1, 4] K) = (
  BIf (decide (i < 16)) (BIf (true && decide (0 ≤ IntKind.wrap .i64 (i * 16) ∧ IntKind.wrap .i64 (i * 16) ≤ ↑xs.length ∧ (↑xs.length : Int) ≤ ↑xs.length ∧ (↑xs.length : Int) ≤ ↑xs.length))
    (BIf (decide (16 ≤ ((xs.drop (IntKind.wrap .i64 (i * 16)).toNat).take ((xs.length : Int).toNat - (IntKind.wrap .i64 (i * 16)).toNat)).length))
      (∃ x0 x1 x2 x3 x4 x5 x6 x7 x8 x9 x10 x11 x12 x13 x14 x15 : Int, (((xs.drop (IntKind.wrap .i64 (i * 16)).toNat).take ((xs.length : Int).toNat - (IntKind.wrap .i64 (i * 16)).toNat)).take 16).flatten =
          [u8 x0, u8 x1, u8 x2, u8 x3, u8 x4, u8 x5, u8 x6, u8 x7, u8 x8, u8 x9, u8 x10, u8 x11, u8 x12, u8 x13, u8 x14, u8 x15] ∧
        y b [.d (i64 i), .agg [.d (u8 x0), .d (u8 x1), .d (u8 x2), .d (u8 x3), .d (u8 x4), .d (u8 x5), .d (u8 x6), .d (u8 x7), .d (u8 x8), .d (u8 x9), .d (u8 x10), .d (u8 x11), .d (u8 x12), .d (u8 x13), .d (u8 x14), .d (u8 x15)]]
          fun c b1 => BIf (!c) (K .ret (tm42 xs i) [] b1) (K .normal (tm42 xs (IntKind.wrap .i64 (i + 1))) [] b1)) False) False)
    (K (.exit 0) (tm42 xs i) [] b)) := by kernel_rfl
end
theorem list16u {p : List Int} (h : p.length = 16) : p.map u8 = [u8 (nth p 0), u8 (nth p 1), u8 (nth p 2), u8 (nth p 3), u8 (nth p 4), u8 (nth p 5), u8 (nth p 6), u8 (nth p 7), u8 (nth p 8), u8 (nth p 9), u8 (nth p 10), u8 (nth p 11), u8 (nth p 12), u8 (nth p 13), u8 (nth p 14), u8 (nth p 15)] := by
  match p, h with
  | [a0, a1, a2, a3, a4, a5, a6, a7, a8, a9, a10, a11, a12, a13, a14, a15], _ => rfl
theorem flatten_bytesR (p : List Int) : (bytesR p).flatten = p.map u8 := by
  induction p with
  | nil => rfl
  | cons x p ih => simpa [bytesR] using ih
theorem bytesR_take (p : List Int) (n : Nat) : (bytesR p).take n = bytesR (p.take n) := by simp [bytesR]
theorem bytesR_drop (p : List Int) (n : Nat) : (bytesR p).drop n = bytesR (p.drop n) := by simp [bytesR]
theorem bytesR_len (p : List Int) : (bytesR p).length = p.length := by simp [bytesR]

def wl42 {β : Type} (y : YieldT β) : WLT β := fun c tm hp b K => ∃ (p : List Int), c = .loop lp42 ∧ maskTm [0, 1, 4] 0 tm = tm42 (bytesR p) 0 ∧ hp = [] ∧ p.length = 256 ∧
  YList y ((List.range' 0 16).map (itemB p)) b fun b' => ∀ i : Int, K (.exit 0) (tm42 (bytesR p) i) [] b' ∧ K .ret (tm42 (bytesR p) i) [] b'
theorem wr42 {Ev : Env Tryd.prog} {Q : Exit → St Ev.β → Prop} (p : List Int) (hp : p.length = 256) : ∀ (n k : Nat) (b : Ev.β), k + n = 16 →
    (YList Ev.Y ((List.range' k n).map (itemB p)) b fun b' => ∀ i : Int, Q (.exit 0) ⟨tm42 (bytesR p) i, [], b'⟩ ∧ Q .ret ⟨tm42 (bytesR p) i, [], b'⟩) → WR Ev lp42 (n + 1) ⟨tm42 (bytesR p) k, [], b⟩ Q
  | 0, k, b, hk, h => by
    refine WR.ofMaskT [0, 1, 4] mixed (CX.Ok.of (u := false) CallsOk.nil SCallsOk.nil) (k := 100) ?_
    rw [f42_round]
    exact BIf.f (by simp; omega) (h _).1
  | n + 1, k, b, hk, h => by
    refine WR.ofMaskT [0, 1, 4] mixed (CX.Ok.of (u := false) CallsOk.nil SCallsOk.nil) (k := 100) ?_
    rw [f42_round]
    have e1 : IntKind.wrap .i64 ((k : Int) * 16) = ((16 * k : Nat) : Int) := by rw [wrap_i64 (by omega) (by omega)]; omega
    have e2 : IntKind.wrap .i64 ((k : Int) + 1) = ((k + 1 : Nat) : Int) := by rw [wrap_i64 (by omega) (by omega)]; omega
    rw [e1, e2, bytesR_len, hp]
    simp only [Int.toNat_natCast, bytesR_drop, bytesR_take, bytesR_len]
    have e3 : (p.drop (16 * k)).take (Int.toNat (256 : Int) - 16 * k) = p.drop (16 * k) := List.take_of_length_le (by simp; omega)
    have e3' : (p.drop (16 * k)).take (256 - 16 * k) = p.drop (16 * k) := List.take_of_length_le (by simp; omega)
    simp only [e3, e3']
    have e4 : (blkS p k).length = 16 := by simp [blkS]; omega
    refine BIf.t (by simp; omega) (BIf.t (by simp; omega) (BIf.t (by simp; omega) ⟨nth (blkS p k) 0, nth (blkS p k) 1, nth (blkS p k) 2, nth (blkS p k) 3, nth (blkS p k) 4, nth (blkS p k) 5, nth (blkS p k) 6, nth (blkS p k) 7, nth (blkS p k) 8, nth (blkS p k) 9, nth (blkS p k) 10, nth (blkS p k) 11, nth (blkS p k) 12, nth (blkS p k) 13, nth (blkS p k) 14, nth (blkS p k) 15, ?_, ?_⟩))
    · rw [flatten_bytesR]; exact list16u (p := blkS p k) e4
    · rw [List.range'_succ, List.map_cons] at h
      refine Ev.Ymono h fun c b' h => ?_
      cases c with
      | true => exact BIf.f rfl (wr42 p hp n (k + 1) b' (by omega) h)
      | false => exact BIf.t rfl (h _).2
theorem wl42_ok {Ev : Env Tryd.prog} (c : Code) (tm : List AV) (hp : List Blk) (b : Ev.β) (K : Exit → List AV → List Blk → Ev.β → Prop) (h : wl42 Ev.Y c tm hp b K) : W Ev c ⟨tm, hp, b⟩ (fun e s => K e s.tm s.hp s.b) := by
  obtain ⟨p, rfl, htm, rfl, hp, hK⟩ := h
  refine W.cast (htm ▸ maskTm_le _ tm 0) (LeH.refl _) ?_
  exact W.rounds (wr42 (Q := fun e s => K e s.tm s.hp s.b) p hp 16 0 b rfl hK)
section
variable {β : Type} (wl : WLT β) (y : YieldT β) (b : β) (R : AV → β → Prop) (Q : β → Prop)
theorem f42_nf (xs : List (List Dv)) : wpc Tryd.prog ⟨[], [], wl42 y, y, false⟩ 100 (code Tryd.f42) (startTm Tryd.f42 [.yl, .rptr [.sl 1 xs]]) [] b (fnK Tryd.prog Tryd.f42 fun _ b => Q b) = (
  ∃ p : List Int, Code.loop lp42 = .loop lp42 ∧ tm42 xs 0 = tm42 (bytesR p) 0 ∧ ([] : List Blk) = [] ∧ p.length = 256 ∧ YList y ((List.range' 0 16).map (itemB p)) b fun b' => ∀ _ : Int, Q b' ∧ Q b') := by kernel_rfl
theorem f31b_nf (xs : List (List Dv)) : wpFn Tryd.prog ⟨[], [], wl, y, false⟩ 100 Tryd.f31 [.d (.sl 1 xs)] b R = R (.fn (.func 42) [] [.rptr [.sl 1 xs]]) b := by kernel_rfl
end
theorem YList.mono {Ev : Env Tryd.prog} {Q Q' : Ev.β → Prop} (hq : ∀ b, Q b → Q' b) : ∀ (l : List (List AV)) (b : Ev.β), YList Ev.Y l b Q → YList Ev.Y l b Q'
  | [], b, h => hq b h
  | x :: l, b, h => Ev.Ymono h fun c b' h => by
    cases c with
    | true => exact YList.mono hq l b' h
    | false => exact hq b' h
theorem ic42 (p : List Int) (hp : p.length = 256) : ICall Tryd.prog 42 [.yl, .rptr [.sl 1 (bytesR p)]] (fun Y b Q => YList Y ((List.range' 0 16).map (itemB p)) b Q) := by
  refine ICall.ofW (c := code Tryd.f42) Tryd.func42 rfl rfl fun Ev b Q h => ?_
  have h1 : wpc Tryd.prog ⟨[], [], wl42 Ev.Y, Ev.Y, false⟩ 100 (code Tryd.f42) (startTm Tryd.f42 [.yl, .rptr [.sl 1 (bytesR p)]]) [] b (fnK Tryd.prog Tryd.f42 fun _ b => Q b) := by
    rw [f42_nf]
    exact ⟨p, rfl, rfl, rfl, hp, YList.mono (fun b h _ => ⟨h, h⟩) _ _ h⟩
  refine wpc_sound mixed (CX.Ok.ofWl CallsOk.nil SCallsOk.nil wl42_ok) h1 fun e tm hp b hK => ?_
  obtain ⟨g1, ys, g2, z, g3, g4⟩ := fnK_sound hK
  exact ⟨g1, ys, g2, g4⟩
theorem pcBlocks (xs : List (List Dv)) : PCall Tryd.prog 31 [.d (.sl 1 xs)] (.fn (.func 42) [] [.rptr [.sl 1 xs]]) := by
  refine PCall.ofFn (n := 100) (u := false) mixed CallsOk.nil SCallsOk.nil Tryd.func31 (by rfl) (by rfl) fun Ev bb => ?_
  rw [f31b_nf]
def cBlocks (args : List AV) (K : AV → Prop) : Prop := ∃ (xs : List (List Dv)), args = [.d (.sl 1 xs)] ∧ K (.fn (.func 42) [] [.rptr [.sl 1 xs]])
theorem cBlocks_ok : ∀ args K, cBlocks args K → ∃ x, PCall Tryd.prog 31 args x ∧ K x := by
  rintro _ K ⟨xs, rfl, h⟩; exact ⟨_, pcBlocks xs, h⟩
end Go.Proofs.YtkjmhfbjdeidjaaDoor.Am

namespace Go.Proofs.YtkjmhfbjdeidjaaDoor.Am
set_option linter.unusedVariables false
open Go Go.RowKit Go.Proofs

/-! ### the closure that adds a block -/
def cell16 (p : List Int) : Blk := ⟨cells16 p, false, false, 0⟩
section
variable {β : Type} (wl : WLT β) (y : YieldT β) (b : β) (R : AV → List Blk → β → Prop)
theorem f30_nf2 (p q : List Int) (b0 b2 b3 b4 : Blk) : wpc Tryd.prog ⟨[], [], wl, y, true⟩ 100 (code Tryd.f30) (startTm Tryd.f30 [.agg (cells16 q), .ptr 1 0]) [b0, cell16 p, b2, b3, b4] b (fnKS Tryd.prog Tryd.f30 R) =
  R (.tup []) [b0, cell16 (xorL p q), b2, b3, b4, cell16 q] b := by kernel_rfl
end
theorem sc30 (p q : List Int) (b0 b2 b3 b4 : Blk) : SCall Tryd.prog 30 [.agg (cells16 q), .ptr 1 0] [b0, cell16 p, b2, b3, b4] (.tup []) [b0, cell16 (xorL p q), b2, b3, b4, cell16 q] := by
  refine SCall.ofW (c := code Tryd.f30) Tryd.func30 rfl rfl fun Ev b => ?_
  have h1 : wpc Tryd.prog ⟨[], [], wlW Ev, Ev.Y, true⟩ 100 (code Tryd.f30) (startTm Tryd.f30 [.agg (cells16 q), .ptr 1 0]) [b0, cell16 p, b2, b3, b4] b (fnKS Tryd.prog Tryd.f30 fun x hp _ => x = .tup [] ∧ hp = [b0, cell16 (xorL p q), b2, b3, b4, cell16 q]) := by
    rw [f30_nf2]; exact ⟨rfl, rfl⟩
  exact wpc_sound mixed (CX.Ok.of CallsOk.nil SCallsOk.nil) h1 fun e tm hp b hK => fnKS_sound hK
def s30 (args : List AV) (hp : List Blk) (K : AV → List Blk → Prop) : Prop := match hp with
  | [b0, b1, b2, b3, b4] => ∃ (p q : List Int), args = [.agg (cells16 q), .ptr 1 0] ∧ b1 = cell16 p ∧ K (.tup []) [b0, cell16 (xorL p q), b2, b3, b4, cell16 q]
  | _ => False
theorem s30_ok : ∀ args hp K, s30 args hp K → ∃ x hp', SCall Tryd.prog 30 args hp x hp' ∧ K x hp' := by
  intro args hp K h
  unfold s30 at h
  split at h
  · rename_i b0 b1 b2 b3 b4
    obtain ⟨p, q, rfl, rfl, h⟩ := h
    exact ⟨_, _, sc30 p q b0 b2 b3 b4, h⟩
  · exact h.elim

/-! ### Encode -/
noncomputable def rf12 : Code := sub [1, 1, 1, 1, 1, 0, 1, 2] (code Tryd.f12)
def TEnc : List (Nat × (List AV → (AV → Prop) → Prop)) := [(28, cIsPage), (29, cSeed), (18, cSet), (31, cBlocks), (32, cTz), (33, cClone)]
theorem TEnc_ok : CallsOk Tryd.prog TEnc := CallsOk.cons cIsPage_ok (CallsOk.cons cIsSeed_ok (CallsOk.cons cSet_ok (CallsOk.cons cBlocks_ok (CallsOk.cons cTz_ok (CallsOk.cons cClone_ok CallsOk.nil)))))
def SEnc : List (Nat × (List AV → List Blk → (AV → List Blk → Prop) → Prop)) := [(30, s30)]
theorem SEnc_ok : SCallsOk Tryd.prog SEnc := SCallsOk.cons s30_ok SCallsOk.nil
theorem rf12_shape : rf12 = .rangeFunc (.tmp 32) #[33, 34] (assignOf rf12) (bodyOf rf12) := by kernel_rfl
def tmE (xs : List (List Dv)) (n s : Int) : List AV := [.bad, .d (i64 n), .d (i64 s), .bad, .bad, .bad, .ptr 0 0, .bad, .ptr 1 0, .ptr 2 0, .ptr 3 0] ++ List.replicate 21 .bad ++ [.fn (.func 42) [] [.rptr [.sl 1 xs]]] ++ List.replicate 18 .bad
def resE : Blk := ⟨[.d (i64 0), .d (i64 0), .d (.s (.slice none 0 0)), .d (.s (.slice none 0 0))], false, false, 0⟩
def hpE (acc : List Int) (set : Int) : List Blk := [resE, cell16 acc, ⟨[.fn (.func 30) [] [.ptr 1 0]], false, false, 0⟩, cellU set]
def andU (a b : Int) : Int := IntKind.wrap .u64 ((BitVec.ofInt 64 a &&& BitVec.ofInt 64 b).toNat : Int)
def clearS (a : Int) : Int := andU a (IntKind.wrap .u64 (a - 1))
def encStep (p : List Int) (st : List Int × Int) (i : Nat) : List Int × Int := if (i : Int) == tzS st.2 then (xorL st.1 (blkS p i), clearS st.2) else st
section
variable {β : Type} (wl : WLT β) (y : YieldT β) (b : β) (R : AV → β → Prop) (Kh : Exit → List Blk → β → Prop)
theorem enc_round (xs : List (List Dv)) (n s i set : Int) (x acc : List Int) : wpcY Tryd.prog ⟨TEnc, SEnc, wl, y, false⟩ 100 #[33, 34] (assignOf rf12) (bodyOf rf12) (tmE xs n s) [.d (i64 i), .agg (cells16 x)] (hpE acc set) b (takeK 4 Kh) = (
  ∃ x0 z1 : Int, [AV.d (u64 set)] = [.d (u64 x0)] ∧ ((0 ≤ x0 ∧ x0 < 18446744073709551616) ∧ z1 = tzS x0) ∧ BIf (i == z1)
    (∃ p2 q3 : List Int, [AV.agg (cells16 x), .ptr 1 0] = [.agg (cells16 q3), .ptr 1 0] ∧ cell16 acc = cell16 p2 ∧ Kh .normal (hpE (xorL p2 q3) (clearS set)) b) (Kh .normal (hpE acc set) b)) := by kernel_rfl
end
theorem clearS_range (a : Int) : 0 ≤ clearS a ∧ clearS a < 18446744073709551616 := wrap_u64_range _
theorem range12 {Ev : Env Tryd.prog} {b : Ev.β} {Q : Exit → St Ev.β → Prop} (xs : List (List Dv)) (n s : Int) (p : List Int) : ∀ (l : List Nat) (st : List Int × Int), (0 ≤ st.2 ∧ st.2 < 18446744073709551616) →
    Q .normal ⟨tmE xs n s, hpE (l.foldl (encStep p) st).1 (l.foldl (encStep p) st).2, b⟩ →
    YList (YBody Ev (tmE xs n s) #[33, 34] (assignOf rf12) (bodyOf rf12) 4) (l.map (itemB p)) (hpE st.1 st.2, b, none) (rangeQ (tmE xs n s) Q)
  | [], st, _, h => h
  | i :: l, st, hs, h => by
    refine YList.step (X := ⟨TEnc, SEnc, wlW Ev, Ev.Y, false⟩) (k := 100) mixed (CX.Ok.of TEnc_ok SEnc_ok) rfl ?_
    show wpcY _ _ _ _ _ _ _ [.d (i64 _), .agg (cells16 _)] (hpE _ _) b (takeK 4 _)
    rw [enc_round]
    rw [List.foldl_cons] at h
    refine ⟨st.2, _, rfl, ⟨hs, rfl⟩, BIf.of (fun hc => ⟨st.1, _, rfl, rfl, ?_⟩) fun hc => ?_⟩
    · have e : encStep p st i = (xorL st.1 (blkS p i), clearS st.2) := by unfold encStep; rw [if_pos hc]
      rw [e] at h
      exact range12 xs n s p l (xorL st.1 (blkS p i), clearS st.2) (clearS_range _) h
    · have e : encStep p st i = st := by unfold encStep; rw [if_neg (by simp [hc])]
      rw [e] at h
      exact range12 xs n s p l st hs h
end Go.Proofs.YtkjmhfbjdeidjaaDoor.Am

namespace Go.Proofs.YtkjmhfbjdeidjaaDoor.Am
set_option linter.unusedVariables false
open Go Go.RowKit Go.Proofs

def encFold (p : List Int) (set : Int) : List Int × Int := (List.range' 0 16).foldl (encStep p) ([], set)
def wlEnc {β : Type} : WLT β := fun c tm hp b K => ∃ (p : List Int) (n s set : Int), c = rf12 ∧ maskTm [1, 2, 6, 8, 9, 10, 32] 0 tm = tmE (bytesR p) n s ∧ hp = hpE [] set ∧ (p.length = 256 ∧ 0 ≤ set ∧ set < 18446744073709551616) ∧
  ∃ a z, encFold p set = (a, z) ∧ K .normal (tmE (bytesR p) n s) (hpE a z) b
theorem wlEnc_ok {Ev : Env Tryd.prog} (c : Code) (tm : List AV) (hp : List Blk) (b : Ev.β) (K : Exit → List AV → List Blk → Ev.β → Prop) (h : wlEnc c tm hp b K) : W Ev c ⟨tm, hp, b⟩ (fun e s => K e s.tm s.hp s.b) := by
  obtain ⟨p, n, s, set, rfl, htm, rfl, ⟨hp, h0, h1⟩, a, z, hf, hK⟩ := h
  refine W.cast (htm ▸ maskTm_le [1, 2, 6, 8, 9, 10, 32] tm 0) (LeH.refl _) ?_
  rw [rf12_shape]
  refine W.range (s := ⟨tmE (bytesR p) n s, _, b⟩) (k := 42) (first := []) (caps := [.rptr [.sl 1 (bytesR p)]]) rfl rfl rfl (ic42 p hp) (range12 (bytesR p) n s p _ ([], set) ⟨h0, h1⟩ ?_)
  have : (List.range' 0 16).foldl (encStep p) ([], set) = (a, z) := hf
  rw [this]; exact hK
/-- a coded block -/
def nilS : AV := .d (.s (.slice none 0 0))
def codeA (n s : Int) (d : AV) (e : Int) : AV := .tup [.agg [.d (i64 n), .d (i64 s), d, nilS], .d (i64 e)]
section
variable {β : Type} (wl : WLT β) (y : YieldT β) (b : β) (R : AV → β → Prop)
theorem encode_nf (xs : List (List Dv)) (n s : Int) : wpFn Tryd.prog ⟨TEnc, SEnc, wlEnc, y, false⟩ 100 Tryd.f12 [.d (.sl 1 xs), .d (i64 n), .d (i64 s)] b R = (
  BIf ((xs.length : Int) != 256) (R (codeA 0 0 nilS 1) b) (∃ x0 : Int, [AV.d (i64 n)] = [.d (i64 x0)] ∧ BIf (!pageS x0) (R (codeA 0 0 nilS 1) b) (∃ x1 : Int, [AV.d (i64 s)] = [.d (i64 x1)] ∧ BIf (!seedS x1) (R (codeA 0 0 nilS 1) b)
    (∃ x2 z3 : Int, [AV.d (i64 s)] = [.d (i64 x2)] ∧ z3 = setS x2 ∧ ∃ xs4 : List (List Dv), [AV.d (.sl 1 xs)] = [.d (.sl 1 xs4)] ∧ ∃ (p5 : List Int) (n6 s7 set8 : Int), rf12 = rf12 ∧ tmE xs4 n s = tmE (bytesR p5) n6 s7 ∧
      hpE [] (IntKind.wrap .u64 z3) = hpE [] set8 ∧ (p5.length = 256 ∧ 0 ≤ set8 ∧ set8 < 18446744073709551616) ∧ ∃ (a9 : List Int) (z10 : Int), encFold p5 set8 = (a9, z10) ∧
        ∃ p11 : List Int, [AV.d (.sl 1 (bytesR (b16 a9)))] = [.d (.sl 1 (bytesR p11))] ∧ (p11 ≠ [] ∧ p11.length ≤ 140737488355328) ∧ R (codeA n6 s7 (.d (.sl 1 (bytesR p11))) 0) b)))) := by kernel_rfl
end
def encOk (p : List Int) (n s : Int) : Bool := decide (p.length = 256) && pageS n && seedS s
def encS (p : List Int) (s : Int) : List Int := b16 (encFold p (setS s)).1
def encA (p : List Int) (n s : Int) : AV := if encOk p n s then codeA n s (.d (.sl 1 (bytesR (encS p s)))) 0 else codeA 0 0 nilS 1
theorem pcEncode (p : List Int) (n s : Int) : PCall Tryd.prog 12 [.d (.sl 1 (bytesR p)), .d (i64 n), .d (i64 s)] (encA p n s) := by
  refine PCall.ofFnW (n := 100) (u := false) (fun _ => wlEnc) mixed TEnc_ok SEnc_ok (fun Ev => wlEnc_ok) Tryd.func12 (by rfl) (by rfl) fun Ev bb => ?_
  rw [encode_nf, bytesR_len]
  refine BIf.of (fun h => ?_) fun h => ⟨n, rfl, BIf.of (fun h1 => ?_) fun h1 => ⟨s, rfl, BIf.of (fun h2 => ?_) fun h2 => ?_⟩⟩
  · have : encOk p n s = false := by simp [encOk]; intro h3; simp at h; omega
    simp [encA, this]
  · have : encOk p n s = false := by simp at h1; simp [encOk, h1]
    simp [encA, this]
  · have : encOk p n s = false := by simp at h2; simp [encOk, h2]
    simp [encA, this]
  · have h3 : p.length = 256 := by simp at h; omega
    simp at h1 h2
    have ho : encOk p n s = true := by simp [encOk, h1, h2, h3]
    have hr := setS_range h2
    refine ⟨s, _, rfl, rfl, _, rfl, p, n, s, setS s, rfl, rfl, ?_, ⟨h3, by omega, by omega⟩, (encFold p (setS s)).1, (encFold p (setS s)).2, by generalize encFold p (setS s) = z; rfl, b16 (encFold p (setS s)).1, by generalize (encFold p (setS s)).1 = z; rfl, ⟨fun h => by have := congrArg List.length h; simp [b16] at this, by generalize (encFold p (setS s)).1 = z; simp [b16]⟩, ?_⟩
    · rw [wrap_u64 (by omega) (by omega)]
    · rw [encA, if_pos ho, encS]
end Go.Proofs.YtkjmhfbjdeidjaaDoor.Am

namespace Go.Proofs.YtkjmhfbjdeidjaaDoor.Am
set_option linter.unusedVariables false
open Go Go.RowKit Go.Proofs

def cEncode (args : List AV) (K : AV → Prop) : Prop := ∃ (p : List Int) (n s : Int) (x : AV), args = [.d (.sl 1 (bytesR p)), .d (i64 n), .d (i64 s)] ∧ x = encA p n s ∧ K x
theorem cEncode_ok : ∀ args K, cEncode args K → ∃ x, PCall Tryd.prog 12 args x ∧ K x := by
  rintro _ K ⟨p, n, s, _, rfl, rfl, h⟩; exact ⟨_, pcEncode p n s, h⟩

/-! ### Receive -/
def TRec : List (Nat × (List AV → (AV → Prop) → Prop)) := [(28, cIsPage), (29, cSeed), (18, cSet), (34, c12)]
theorem TRec_ok : CallsOk Tryd.prog TRec := CallsOk.cons cIsPage_ok (CallsOk.cons cIsSeed_ok (CallsOk.cons cSet_ok (CallsOk.cons c12_ok CallsOk.nil)))
def nil3 : AV := .tup [.d (.s (.slice none 0 0)), .d (bo false), .d (i64 1)]
def recA (n s : Int) (d pr : List (List Dv)) : AV := .agg [.d (i64 n), .d (i64 s), .d (.sl 1 d), .d (.sl 1 pr)]
section
variable {β : Type} (wl : WLT β) (y : YieldT β) (b : β) (R : AV → β → Prop)
theorem receive_nf (xs ys pr : List (List Dv)) (n s : Int) : wpFn Tryd.prog ⟨TRec, [], wl, y, false⟩ 100 Tryd.f14 [.d (.sl 2 xs), recA n s ys pr] b R = (
  ∃ x0 : Int, [AV.d (i64 n)] = [.d (i64 x0)] ∧ BIf (!pageS x0) (R nil3 b) (∃ x1 : Int, [AV.d (i64 s)] = [.d (i64 x1)] ∧ BIf (!seedS x1) (R nil3 b) (BIf ((ys.length : Int) != 16) (R nil3 b)
    (∃ x2 z3 : Int, [AV.d (i64 s)] = [.d (i64 x2)] ∧ z3 = setS x2 ∧ ∃ (l4 : List Row) (m5 : Int) (b6 : List Int) (x7 : List Row × Bool × Int), [AV.d (.sl 2 xs), .agg [.d (i64 z3), .d (.sl 1 ys)]] = [.d (.sl 2 (rowsR l4)), rowA m5 b6] ∧
      2 * l4.length ≤ 1000000 ∧ x7 = addS l4 m5 b6 ∧ R (addR x7) b)))) := by kernel_rfl
end
def recOk (n s : Int) (d : List Int) : Bool := pageS n && seedS s && decide (d.length = 16)
def recS (l : List Row) (n s : Int) (d : List Int) : List Row × Bool × Int := if recOk n s d then addS l (setS s) d else ([], false, 1)
theorem pcReceive (l : List Row) (n s : Int) (d : List Int) (pr : List (List Dv)) (hl : 2 * l.length ≤ 1000000) : PCall Tryd.prog 14 [.d (.sl 2 (rowsR l)), recA n s (bytesR d) pr] (addR (recS l n s d)) := by
  refine PCall.ofFnL (n := 100) (u := false) (fun _ => fun _ _ _ _ _ => False) mixed TRec_ok SCallsOk.nil (fun Ev _ _ _ _ _ h => h.elim) Tryd.func14 (by rfl) (by rfl) fun Ev bb => ?_
  rw [receive_nf, bytesR_len]
  refine ⟨n, rfl, BIf.of (fun h1 => ?_) fun h1 => ⟨s, rfl, BIf.of (fun h2 => ?_) fun h2 => BIf.of (fun h3 => ?_) fun h3 => ?_⟩⟩
  · rw [recS, if_neg (by simp at h1; simp [recOk, h1])]; exact nilTup _ _
  · rw [recS, if_neg (by simp at h2; simp [recOk, h2])]; exact nilTup _ _
  · rw [recS, if_neg (by simp at h3; simp [recOk]; intro _ _ h; omega)]; exact nilTup _ _
  · simp at h1 h2 h3
    rw [recS, if_pos (by simp [recOk, h1, h2]; omega)]
    exact ⟨s, _, rfl, rfl, l, _, d, _, rfl, hl, rfl, .rfl⟩
def cReceive (args : List AV) (K : AV → Prop) : Prop := ∃ (l : List Row) (n s : Int) (d : List Int) (pr : List (List Dv)) (x : List Row × Bool × Int), args = [.d (.sl 2 (rowsR l)), recA n s (bytesR d) pr] ∧ (2 * l.length ≤ 1000000 ∧ x = recS l n s d) ∧ K (addR x)
theorem cReceive_ok : ∀ args K, cReceive args K → ∃ x, PCall Tryd.prog 14 args x ∧ K x := by
  rintro _ K ⟨l, n, s, d, pr, _, rfl, ⟨hl, rfl⟩, h⟩; exact ⟨_, pcReceive l n s d pr hl, h⟩
end Go.Proofs.YtkjmhfbjdeidjaaDoor.Am

namespace Go.Proofs.YtkjmhfbjdeidjaaDoor.Am
set_option linter.unusedVariables false
open Go Go.RowKit Go.Proofs

/-! ### Page -/
def GB : List (Nat × (List AV → List Blk → (AV → List Blk → Prop) → Prop)) := [((1000000 + 5), fun _ _ _ => False)]
theorem GB_ok : SCallsOk Tryd.prog GB := SCallsOk.cons (fun _ _ _ h => h.elim) SCallsOk.nil
def TPg : List (Nat × (List AV → (AV → Prop) → Prop)) := [(37, c14)]
theorem TPg_ok : CallsOk Tryd.prog TPg := CallsOk.cons c14_ok CallsOk.nil
noncomputable def lp16 : Code := sub [1, 1, 1, 0, 1, 2, 3] (code Tryd.f16)
def setF (l : List Bool) (i : Nat) (z : Bool) : List Bool := (List.range 16).map fun j => if j = i then z else l.getD j false
def cellB (l : List Bool) : Blk := ⟨(List.range 16).map fun i => .d (bo (l.getD i false)), false, false, 0⟩
def tm16 (xs : List (List Dv)) (v n : Nat) (i : Int) : List AV := [.d (.sl 2 xs), .bad, .bad, .bad, .ptr 0 0, .gref 1 v n 1, .bad, .bad, .bad, .d (i64 i)] ++ List.replicate 25 .bad
def growB (cs : List AV) (v : Nat) : Blk := ⟨cs, false, true, v⟩
section
variable {β : Type} (wl : WLT β) (y : YieldT β) (b : β) (R : AV → β → Prop) (K : Exit → List AV → List Blk → β → Prop)
def pageR {β : Type} (K : Exit → List AV → List Blk → β → Prop) (b : β) (xs : List (List Dv)) (cs : List AV) (l : List Bool) (v n i : Nat) : Prop :=
  ∃ (l0 : List Row) (m1 : Int) (x2 : List Int × Bool), [AV.d (.sl 2 xs), .d (i64 i)] = [.d (.sl 2 (rowsR l0)), .d (i64 m1)] ∧ l0.length ≤ 9223372036854775807 ∧ x2 = solvedS l0 m1 ∧
    BIf x2.2 (v = v ∧ BIf (decide ((n + (bytesR x2.1).length) * 1 ≤ 140737488355328)) (K .normal (tm16 xs (v + 1) (n + (bytesR x2.1).length) (i + 1 : Nat)) [cellB (setF l i x2.2), growB (cs ++ flatA (bytesR x2.1)) (v + 1)] b) False)
      (K .normal (tm16 xs v n (i + 1 : Nat)) [cellB (setF l i x2.2), growB cs v] b)
theorem page_round (xs : List (List Dv)) (cs : List AV) (l : List Bool) (v n : Nat) : ∀ i : Nat, i < 16 →
    wpc Tryd.prog ⟨TPg, GB, wl, y, false⟩ 100 lp16 (tm16 xs v n i) [cellB l, growB cs v] b (maskT [0, 4, 5, 9] K) = pageR K b xs cs l v n i
  | 0, _ => by kernel_rfl
  | 1, _ => by kernel_rfl
  | 2, _ => by kernel_rfl
  | 3, _ => by kernel_rfl
  | 4, _ => by kernel_rfl
  | 5, _ => by kernel_rfl
  | 6, _ => by kernel_rfl
  | 7, _ => by kernel_rfl
  | 8, _ => by kernel_rfl
  | 9, _ => by kernel_rfl
  | 10, _ => by kernel_rfl
  | 11, _ => by kernel_rfl
  | 12, _ => by kernel_rfl
  | 13, _ => by kernel_rfl
  | 14, _ => by kernel_rfl
  | 15, _ => by kernel_rfl
  | n + 16, h => absurd h (by omega)
theorem page_end (xs : List (List Dv)) (cs : List AV) (l : List Bool) (v n : Nat) : wpc Tryd.prog ⟨TPg, GB, wl, y, false⟩ 100 lp16 (tm16 xs v n 16) [cellB l, growB cs v] b (maskT [0, 4, 5, 9] K) = K (.exit 0) (tm16 xs v n 16) [cellB l, growB cs v] b := by kernel_rfl
end
theorem solvedS_len (l : List Row) (i : Int) : (solvedS l i).1.length ≤ 16 := by
  unfold solvedS
  split
  · simp
  · split
    · unfold foundS; split <;> simp [b16]
    · simp
def pageStep (l : List Row) (st : List Int × List Bool) (i : Nat) : List Int × List Bool :=
  if (solvedS l i).2 then (st.1 ++ (solvedS l i).1, setF st.2 i (solvedS l i).2) else (st.1, setF st.2 i (solvedS l i).2)
theorem bytesR_app (p q : List Int) : bytesR (p ++ q) = bytesR p ++ bytesR q := by simp [bytesR]
theorem wrPage {Ev : Env Tryd.prog} {b : Ev.β} {Q : Exit → St Ev.β → Prop} (l : List Row) (hl : l.length ≤ 9223372036854775807) : ∀ (n k : Nat) (st : List Int × List Bool) (v : Nat), k + n = 16 → st.1.length ≤ 16 * k →
    (∀ v', Q (.exit 0) ⟨tm16 (rowsR l) v' ((List.range' k n).foldl (pageStep l) st).1.length 16, [cellB ((List.range' k n).foldl (pageStep l) st).2, growB (flatA (bytesR ((List.range' k n).foldl (pageStep l) st).1)) v'], b⟩) →
    WR Ev lp16 (n + 1) ⟨tm16 (rowsR l) v st.1.length k, [cellB st.2, growB (flatA (bytesR st.1)) v], b⟩ Q
  | 0, k, st, v, hk, hs, h => by
    refine WR.ofMaskT [0, 4, 5, 9] mixed (CX.Ok.of (u := false) TPg_ok GB_ok) (k := 100) ?_
    obtain rfl : k = 16 := by omega
    show wpc _ _ _ _ (tm16 (rowsR l) v st.1.length 16) _ _ _
    rw [page_end]
    exact h v
  | n + 1, k, st, v, hk, hs, h => by
    refine WR.ofMaskT [0, 4, 5, 9] mixed (CX.Ok.of (u := false) TPg_ok GB_ok) (k := 100) ?_
    rw [page_round _ _ _ _ _ _ _ _ _ k (by omega)]
    rw [List.range'_succ, List.foldl_cons] at h
    have hd := solvedS_len l k
    refine ⟨l, _, solvedS l k, rfl, hl, rfl, BIf.of (fun hf => ⟨rfl, BIf.t (by rw [bytesR_len]; simp; omega) ?_⟩) fun hf => ?_⟩
    · have e : pageStep l st k = (st.1 ++ (solvedS l k).1, setF st.2 k (solvedS l k).2) := by simp [pageStep, hf]
      rw [e] at h
      have := wrPage l hl n (k + 1) (st.1 ++ (solvedS l k).1, setF st.2 k (solvedS l k).2) (v + 1) (by omega) (by simp; omega) h
      rw [bytesR_app, flatA_append, List.length_append] at this
      rw [bytesR_len]
      exact this
    · have e : pageStep l st k = (st.1, setF st.2 k (solvedS l k).2) := by simp [pageStep, hf]
      rw [e] at h
      exact wrPage l hl n (k + 1) (st.1, setF st.2 k (solvedS l k).2) v (by omega) (by simp; omega) h
end Go.Proofs.YtkjmhfbjdeidjaaDoor.Am

namespace Go.Proofs.YtkjmhfbjdeidjaaDoor.Am
set_option linter.unusedVariables false
open Go Go.RowKit Go.Proofs

/-! ### Index, Contains -/
def boolsR (f : List Bool) : List (List Dv) := f.map fun z => [bo z]
def ixS (w : Bool) : List Bool → Nat → Int
  | [], _ => -1
  | z :: f, k => if w == z then k else ixS w f (k + 1)
theorem ixS_ge (w : Bool) : ∀ (f : List Bool) (k : Nat), decide (ixS w f k ≥ 0) = f.contains w
  | [], k => by simp [ixS]
  | z :: f, k => by
    unfold ixS
    rw [List.contains_cons]
    cases h : w == z with
    | true => simp
    | false => simpa using ixS_ge w f (k + 1)
noncomputable def lp57 : Code := sub [1, 0, 1, 2, 3] (code Tryd.f57)
def tm57 (xs : List (List Dv)) (w : Bool) (n i : Int) : List AV := [.d (.sl 1 xs), .d (bo w), .bad, .bad, .bad, .bad, .bad, .d (i64 n), .d (i64 i)] ++ List.replicate 10 .bad
section
variable {β : Type} (wl : WLT β) (y : YieldT β) (b : β) (R : AV → β → Prop) (K : Exit → List AV → List Blk → β → Prop)
theorem f57_round (xs : List (List Dv)) (w : Bool) (n i : Int) : wpc Tryd.prog ⟨[], [], wl, y, false⟩ 100 lp57 (tm57 xs w n i) [] b (maskK 0 [0, 1, 4, 7, 8] K) = (
  BIf (decide (i < n)) (BIf (true && decide (0 ≤ i)) (∃ b0 : Bool, xs[Int.toNat i]? = some [bo b0] ∧ BIf (w == b0) (K .ret ((tm57 xs w n i).set 4 (.d (i64 i))) [] b) (K .normal (tm57 xs w n (IntKind.wrap .i64 (i + 1))) [] b)) False)
    (K (.exit 0) (tm57 xs w n i) [] b)) := by kernel_rfl
end
def wl57 {β : Type} : WLT β := fun c tm hp b K => ∃ (f : List Bool) (w : Bool), c = .loop lp57 ∧ maskTm [0, 1, 7, 8] 0 tm = tm57 (boolsR f) w f.length 0 ∧ hp = [] ∧ f.length ≤ 9223372036854775807 ∧
  (∀ i : Nat, ixS w f 0 = i → K .ret ((tm57 (boolsR f) w f.length i).set 4 (.d (i64 i))) [] b) ∧ (ixS w f 0 = -1 → K (.exit 0) (tm57 (boolsR f) w f.length f.length) [] b)
theorem wr57 {Ev : Env Tryd.prog} {b : Ev.β} {Q : Exit → St Ev.β → Prop} (f : List Bool) (w : Bool) (hl : f.length ≤ 9223372036854775807) : ∀ (rest : List Bool) (k : Nat), f.drop k = rest → k ≤ f.length →
    (∀ i : Nat, ixS w rest k = i → Q .ret ⟨(tm57 (boolsR f) w f.length i).set 4 (.d (i64 i)), [], b⟩) → (ixS w rest k = -1 → Q (.exit 0) ⟨tm57 (boolsR f) w f.length f.length, [], b⟩) → WR Ev lp57 (rest.length + 1) ⟨tm57 (boolsR f) w f.length k, [], b⟩ Q
  | [], k, hd, hk, h1, h2 => by
    refine WR.ofMask [0, 1, 4, 7, 8] mixed (CX.Ok.of (u := false) CallsOk.nil SCallsOk.nil) (k := 100) ?_
    show wpc _ _ _ _ _ _ _ (maskK 0 _ _)
    rw [f57_round]
    have := drop_nil hd
    obtain rfl : k = f.length := by omega
    exact BIf.f (by simp) (h2 rfl)
  | z :: rest, k, hd, hk, h1, h2 => by
    refine WR.ofMask [0, 1, 4, 7, 8] mixed (CX.Ok.of (u := false) CallsOk.nil SCallsOk.nil) (k := 100) ?_
    show wpc _ _ _ _ _ _ _ (maskK 0 _ _)
    rw [f57_round]
    obtain ⟨hk, hr, hd'⟩ := drop_cons hd
    refine BIf.t (by simpa using hk) (BIf.t (by simp) ⟨z, by simp [boolsR, hr], BIf.of (fun hz => ?_) fun hz => ?_⟩)
    · exact h1 k (by simp [ixS, hz])
    · rw [wrap_succ hk hl]
      have e : ixS w (z :: rest) k = ixS w rest (k + 1) := by simp [ixS, hz]
      rw [e] at h1 h2
      exact wr57 f w hl rest (k + 1) hd' hk h1 h2
theorem wl57_ok {Ev : Env Tryd.prog} (c : Code) (tm : List AV) (hp : List Blk) (b : Ev.β) (K : Exit → List AV → List Blk → Ev.β → Prop) (h : wl57 c tm hp b K) : W Ev c ⟨tm, hp, b⟩ (fun e s => K e s.tm s.hp s.b) := by
  obtain ⟨f, w, rfl, htm, rfl, hl, h1, h2⟩ := h
  refine W.cast (htm ▸ maskTm_le _ tm 0) (LeH.refl _) ?_
  exact W.rounds (wr57 (Q := fun e s => K e s.tm s.hp s.b) f w hl f 0 rfl (Nat.zero_le _) h1 h2)
section
variable {β : Type} (wl : WLT β) (y : YieldT β) (b : β) (R : AV → β → Prop)
theorem f57_nf (xs : List (List Dv)) (w : Bool) : wpFn Tryd.prog ⟨[], [], wl57, y, false⟩ 100 Tryd.f57 [.d (.sl 1 xs), .d (bo w)] b R = (
  ∃ (f : List Bool) (w' : Bool), Code.loop lp57 = .loop lp57 ∧ tm57 xs w xs.length 0 = tm57 (boolsR f) w' f.length 0 ∧ ([] : List Blk) = [] ∧ f.length ≤ 9223372036854775807 ∧
    (∀ i : Nat, ixS w' f 0 = i → R (.d (i64 i)) b) ∧ (ixS w' f 0 = -1 → R (.d (i64 (-1))) b)) := by kernel_rfl
end
theorem ixS_cases (w : Bool) : ∀ (f : List Bool) (k : Nat), (∃ i : Nat, ixS w f k = i) ∨ ixS w f k = -1
  | [], k => .inr rfl
  | z :: f, k => by
    unfold ixS
    split
    · exact .inl ⟨k, rfl⟩
    · exact ixS_cases w f (k + 1)
theorem pcIndex (f : List Bool) (w : Bool) (hl : f.length ≤ 9223372036854775807) : PCall Tryd.prog 57 [.d (.sl 1 (boolsR f)), .d (bo w)] (.d (i64 (ixS w f 0))) := by
  refine PCall.ofFnW (n := 100) (u := false) (fun _ => wl57) mixed CallsOk.nil SCallsOk.nil (fun Ev => wl57_ok) Tryd.func57 (by rfl) (by rfl) fun Ev bb => ?_
  rw [f57_nf]
  have hbl : (boolsR f).length = f.length := by simp [boolsR]
  rw [hbl]
  exact ⟨f, w, rfl, rfl, rfl, hl, fun i h => by rw [h], fun h => by rw [h]⟩
def cIndexB (args : List AV) (K : AV → Prop) : Prop := ∃ (f : List Bool) (w : Bool) (z : Int), args = [.d (.sl 1 (boolsR f)), .d (bo w)] ∧ (f.length ≤ 9223372036854775807 ∧ z = ixS w f 0) ∧ K (.d (i64 z))
theorem cIndexB_ok : ∀ args K, cIndexB args K → ∃ x, PCall Tryd.prog 57 args x ∧ K x := by
  rintro _ K ⟨f, w, _, rfl, ⟨hl, rfl⟩, h⟩; exact ⟨_, pcIndex f w hl, h⟩
def TCon : List (Nat × (List AV → (AV → Prop) → Prop)) := [(57, cIndexB)]
theorem TCon_ok : CallsOk Tryd.prog TCon := CallsOk.cons cIndexB_ok CallsOk.nil
section
variable {β : Type} (wl : WLT β) (y : YieldT β) (b : β) (R : AV → β → Prop)
theorem contains_nf (xs : List (List Dv)) (w : Bool) : wpFn Tryd.prog ⟨TCon, [], wl, y, false⟩ 100 Tryd.f38 [.d (.sl 1 xs), .d (bo w)] b R = (
  ∃ (f : List Bool) (w' : Bool) (z : Int), [AV.d (.sl 1 xs), .d (bo w)] = [.d (.sl 1 (boolsR f)), .d (bo w')] ∧ (f.length ≤ 9223372036854775807 ∧ z = ixS w' f 0) ∧ R (.d (bo (decide (z ≥ 0)))) b) := by kernel_rfl
end
theorem pcContains (f : List Bool) (w : Bool) (hl : f.length ≤ 9223372036854775807) : PCall Tryd.prog 38 [.d (.sl 1 (boolsR f)), .d (bo w)] (.d (bo (f.contains w))) := by
  refine PCall.ofFn (n := 100) (u := false) mixed TCon_ok SCallsOk.nil Tryd.func38 (by rfl) (by rfl) fun Ev bb => ?_
  rw [contains_nf]
  exact ⟨f, w, _, rfl, ⟨hl, rfl⟩, by rw [ixS_ge]⟩
def cContains (args : List AV) (K : AV → Prop) : Prop := ∃ (f : List Bool) (w z : Bool), args = [.d (.sl 1 (boolsR f)), .d (bo w)] ∧ (f.length ≤ 9223372036854775807 ∧ z = f.contains w) ∧ K (.d (bo z))
theorem cContains_ok : ∀ args K, cContains args K → ∃ x, PCall Tryd.prog 38 args x ∧ K x := by
  rintro _ K ⟨f, w, _, rfl, ⟨hl, rfl⟩, h⟩; exact ⟨_, pcContains f w hl, h⟩
end Go.Proofs.YtkjmhfbjdeidjaaDoor.Am

namespace Go.Proofs.YtkjmhfbjdeidjaaDoor.Am
set_option linter.unusedVariables false
open Go Go.RowKit Go.Proofs

def pageF (l : List Row) : List Int × List Bool := (List.range' 0 16).foldl (pageStep l) ([], [])
def wlPage {β : Type} : WLT β := fun c tm hp b K => ∃ (l : List Row) (r : List Int × List Bool), c = .loop lp16 ∧ maskTm [0, 4, 5, 9] 0 tm = tm16 (rowsR l) 0 0 0 ∧ hp = [cellB [], growB [] 0] ∧ l.length ≤ 9223372036854775807 ∧ r = pageF l ∧
  ∀ v, K (.exit 0) (tm16 (rowsR l) v r.1.length 16) [cellB r.2, growB (flatA (bytesR r.1)) v] b
theorem wlPage_ok {Ev : Env Tryd.prog} (c : Code) (tm : List AV) (hp : List Blk) (b : Ev.β) (K : Exit → List AV → List Blk → Ev.β → Prop) (h : wlPage c tm hp b K) : W Ev c ⟨tm, hp, b⟩ (fun e s => K e s.tm s.hp s.b) := by
  obtain ⟨l, r, rfl, htm, rfl, hl, rfl, hK⟩ := h
  refine W.cast (htm ▸ maskTm_le _ tm 0) (LeH.refl _) ?_
  exact W.rounds (wrPage (Q := fun e s => K e s.tm s.hp s.b) l hl 16 0 ([], []) 0 rfl (Nat.zero_le _) hK)
def TPage : List (Nat × (List AV → (AV → Prop) → Prop)) := [(38, cContains)]
theorem TPage_ok : CallsOk Tryd.prog TPage := CallsOk.cons cContains_ok CallsOk.nil
end Go.Proofs.YtkjmhfbjdeidjaaDoor.Am

namespace Go.Proofs.YtkjmhfbjdeidjaaDoor.Am
set_option linter.unusedVariables false
open Go Go.RowKit Go.Proofs

/-! ### Page -/
def noneF (l : List Bool) : Bool := (List.range' 0 16).foldr (fun i a => l.getD i false == false && a) true
def rows16 (l : List Bool) : List (List Dv) := (List.range' 0 16).map fun i => [bo (l.getD i false)]
def pagesS (l : List Row) : List Int × Bool := if noneF (pageF l).2 || ((List.range' 0 16).map fun i => (pageF l).2.getD i false).contains false then ([], false) else ((pageF l).1, true)
section
variable {β : Type} (y : YieldT β) (b : β) (R : AV → β → Prop)
theorem page_nf (xs : List (List Dv)) : wpFn Tryd.prog ⟨TPage, GB, wlPage, y, false⟩ 100 Tryd.f16 [.d (.sl 2 xs)] b R = (
  ∃ (l : List Row) (r : List Int × List Bool), Code.loop lp16 = .loop lp16 ∧ tm16 xs 0 0 0 = tm16 (rowsR l) 0 0 0 ∧ [cellB [], growB [] 0] = [cellB [], growB [] 0] ∧ l.length ≤ 9223372036854775807 ∧ r = pageF l ∧ ∀ v : Nat,
    BIf (noneF r.2) (R (.tup [.d (.s (.slice none 0 0)), .d (bo false)]) b)
      (∃ (f : List Bool) (w z : Bool), [AV.d (.sl 1 (rows16 r.2)), .d (bo false)] = [.d (.sl 1 (boolsR f)), .d (bo w)] ∧ (f.length ≤ 9223372036854775807 ∧ z = f.contains w) ∧
        BIf z (R (.tup [.d (.s (.slice none 0 0)), .d (bo false)]) b) (v = v ∧ ∃ xs5 : List (List Dv), flatA (bytesR r.1) = flatA xs5 ∧ xs5.length = r.1.length ∧ (∀ q : List Dv, q ∈ xs5 → q.length = 1) ∧ R (.tup [.d (.sl 1 xs5), .d (bo true)]) b))) := by kernel_rfl
end
theorem flatA_bytes : ∀ (xs : List (List Dv)) (p : List Int), flatA (bytesR p) = flatA xs → (∀ q ∈ xs, q.length = 1) → xs = bytesR p
  | [], [], _, _ => rfl
  | [], x :: p, h, _ => by simp [flatA, bytesR] at h
  | r :: xs, p, h, hq => by
    have h1 := hq r (List.mem_cons_self ..)
    match r, h1 with
    | [d], _ =>
      cases p with
      | nil => simp [flatA, bytesR] at h
      | cons x p =>
        have e : flatA (bytesR (x :: p)) = .d (u8 x) :: flatA (bytesR p) := rfl
        have e2 : flatA ([d] :: xs) = .d d :: flatA xs := rfl
        rw [e, e2] at h
        simp only [List.cons.injEq, AV.d.injEq] at h
        rw [flatA_bytes xs p h.2 fun q hh => hq q (List.mem_cons_of_mem _ hh), ← h.1]
        rfl
theorem pcPage (l : List Row) (hl : l.length ≤ 9223372036854775807) : PCall Tryd.prog 16 [.d (.sl 2 (rowsR l))] (bytesB (pagesS l)) := by
  refine PCall.ofFnL (n := 100) (u := false) (fun _ => wlPage) mixed TPage_ok GB_ok (fun Ev => wlPage_ok) Tryd.func16 (by rfl) (by rfl) fun Ev bb => ?_
  show wpFn Tryd.prog ⟨TPage, GB, wlPage, Ev.Y, false⟩ 100 Tryd.f16 _ bb _
  rw [page_nf]
  refine ⟨l, _, rfl, rfl, rfl, hl, rfl, fun v => BIf.of (fun h => ?_) fun h => ⟨(List.range' 0 16).map fun i => (pageF l).2.getD i false, false, _, rfl, ⟨by simp, rfl⟩, BIf.of (fun h1 => ?_) fun h1 => ⟨rfl, bytesR (pageF l).1, rfl, bytesR_len _, ?_, ?_⟩⟩⟩
  · rw [pagesS, if_pos (by rw [h]; rfl)]; exact nilTup1 _
  · rw [pagesS, if_pos (by rw [h1]; simp)]; exact nilTup1 _
  · intro q hq
    simp only [bytesR, List.mem_map] at hq
    obtain ⟨x, _, rfl⟩ := hq; rfl
  · rw [pagesS, if_neg (by rw [h, h1]; simp)]; exact .rfl
def cPage (args : List AV) (K : AV → Prop) : Prop := ∃ (l : List Row) (x : List Int × Bool), args = [.d (.sl 2 (rowsR l))] ∧ (l.length ≤ 9223372036854775807 ∧ x = pagesS l) ∧ K (bytesB x)
theorem cPage_ok : ∀ args K, cPage args K → ∃ x, PCall Tryd.prog 16 args x ∧ K x := by
  rintro _ K ⟨l, _, rfl, ⟨hl, rfl⟩, h⟩; exact ⟨_, pcPage l hl, h⟩

/-- what a page comes to -/
theorem setF_get (l : List Bool) (i j : Nat) (z : Bool) (hj : j < 16) : (setF l i z).getD j false = if j = i then z else l.getD j false := by
  simp [setF, List.getD, hj]
theorem page_bools (l : List Row) : ∀ (n k : Nat) (st : List Int × List Bool) (j : Nat), j < 16 → (((List.range' k n).foldl (pageStep l) st).2.getD j false) = if k ≤ j ∧ j < k + n then (solvedS l j).2 else st.2.getD j false
  | 0, k, st, j, hj => by simp; intro h1 h2; omega
  | n + 1, k, st, j, hj => by
    rw [List.range'_succ, List.foldl_cons, page_bools l n (k + 1) _ j hj]
    have e : (pageStep l st k).2 = setF st.2 k (solvedS l k).2 := by unfold pageStep; split <;> rfl
    rw [e, setF_get _ _ _ _ hj]
    by_cases h1 : j = k
    · subst h1
      rw [if_neg (by omega), if_pos rfl, if_pos (by omega)]
    · rw [if_neg h1]
      by_cases h2 : k + 1 ≤ j ∧ j < k + 1 + n
      · rw [if_pos h2, if_pos (by omega)]
      · rw [if_neg h2, if_neg (by omega)]
theorem page_data (l : List Row) : ∀ (n k : Nat) (st : List Int × List Bool), (∀ i : Nat, k ≤ i → i < k + n → (solvedS l i).2 = true) → ((List.range' k n).foldl (pageStep l) st).1 = st.1 ++ (List.range' k n).flatMap fun i : Nat => (solvedS l i).1
  | 0, k, st, _ => by simp
  | n + 1, k, st, h => by
    rw [List.range'_succ, List.foldl_cons, page_data l n (k + 1) _ fun i h1 h2 => h i (by omega) (by omega)]
    have e : (pageStep l st k).1 = st.1 ++ (solvedS l k).1 := by unfold pageStep; rw [if_pos (h k (by omega) (by omega))]
    rw [e]; simp
theorem noneF_iff (l : List Bool) : noneF l = true ↔ ∀ i, i < 16 → l.getD i false = false := by
  have key : ∀ (n k : Nat), (List.range' k n).foldr (fun i a => l.getD i false == false && a) true = true ↔ ∀ i, k ≤ i → i < k + n → l.getD i false = false := by
    intro n
    induction n with
    | zero => intro k; simp; intro i h1 h2; omega
    | succ n ih =>
      intro k
      rw [List.range'_succ, List.foldr_cons, Bool.and_eq_true, ih, beq_iff_eq]
      refine ⟨fun h i h1 h2 => ?_, fun h => ⟨h k (by omega) (by omega), fun i h1 h2 => h i (by omega) (by omega)⟩⟩
      by_cases hi : i = k
      · subst hi; exact h.1
      · exact h.2 i (by omega) (by omega)
  have := key 16 0
  exact this.trans ⟨fun h i hi => h i (by omega) (by omega), fun h i _ hi => h i (by omega)⟩
theorem pagesS_eq (l : List Row) : pagesS l = if (List.range' 0 16).all fun i : Nat => (solvedS l i).2 then ((List.range' 0 16).flatMap fun i : Nat => (solvedS l i).1, true) else ([], false) := by
  have hb : ∀ j, j < 16 → (pageF l).2.getD j false = (solvedS l j).2 := fun j hj => by
    unfold pageF; rw [page_bools l 16 0 _ j hj, if_pos (by omega)]
  by_cases h : (List.range' 0 16).all (fun i : Nat => (solvedS l i).2) = true
  · rw [if_pos h]
    have h' : ∀ i : Nat, i < 16 → (solvedS l i).2 = true := fun i hi => List.all_eq_true.1 h i (by simp [List.mem_range'_1]; omega)
    have hn : noneF (pageF l).2 = false := by
      cases hx : noneF (pageF l).2 with
      | false => rfl
      | true => have := (noneF_iff _).1 hx 0 (by omega); rw [hb 0 (by omega), h' 0 (by omega)] at this; cases this
    have hc : ((List.range' 0 16).map fun i => (pageF l).2.getD i false).contains false = false := by
      rw [List.contains_eq_mem, decide_eq_false_iff_not]
      intro hm
      obtain ⟨i, hi, he⟩ := List.mem_map.1 hm
      have hi : i < 16 := by simp [List.mem_range'_1] at hi; omega
      rw [hb i hi, h' i hi] at he; cases he
    rw [pagesS, if_neg (by rw [hn, hc]; simp)]
    have := page_data l 16 0 ([], []) fun i _ h2 => h' i (by omega)
    rw [show (pageF l).1 = _ from this]; simp
  · rw [if_neg h]
    have : ∃ i : Nat, i < 16 ∧ (solvedS l i).2 = false := by
      false_or_by_contra
      rename_i hn
      exact h (List.all_eq_true.2 fun i hi => by
        have hi : i < 16 := by simp [List.mem_range'_1] at hi; omega
        cases hx : (solvedS l i).2 with
        | true => rfl
        | false => exact absurd ⟨i, hi, hx⟩ hn)
    obtain ⟨i, hi, hx⟩ := this
    rw [pagesS, if_pos]
    rw [Bool.or_eq_true]; right
    rw [List.contains_eq_mem, decide_eq_true_eq]
    exact List.mem_map.2 ⟨i, by simp [List.mem_range'_1]; omega, by rw [hb i hi, hx]⟩
end Go.Proofs.YtkjmhfbjdeidjaaDoor.Am

namespace Go.Proofs.YtkjmhfbjdeidjaaDoor.Am
set_option linter.unusedVariables false
open Go Go.RowKit Go.Proofs

/-! ### Encode, with data only -/
def blkA (n s : Int) (q : List Int) : AV := .agg [.d (i64 n), .d (i64 s), .d (.sl 1 (bytesR q)), .d (.sl 1 [])]
def codeB (x : List Int × Int × Int × Int) : AV := .tup [blkA x.2.1 x.2.2.1 x.1, .d (i64 x.2.2.2)]
def encR (p : List Int) (n s : Int) : List Int × Int × Int × Int := if encOk p n s then (encS p s, n, s, 0) else ([], 0, 0, 1)
theorem nilSlV {k : Nat} : LeV nilS (.d (.sl k [])) := .nil rfl
theorem pcEncodeB (p : List Int) (n s : Int) : PCall Tryd.prog 12 [.d (.sl 1 (bytesR p)), .d (i64 n), .d (i64 s)] (codeB (encR p n s)) := by
  refine PCall.leV ?_ ?_ (pcEncode p n s)
  · unfold encA encR
    split
    · exact .tups (.cons (.aggs (.cons .rfl (.cons .rfl (.cons .rfl (.cons nilSlV .nil))))) (.cons .rfl .nil))
    · exact .tups (.cons (.aggs (.cons .rfl (.cons .rfl (.cons nilSlV (.cons nilSlV .nil))))) (.cons .rfl .nil))
  · unfold encA; split <;> rfl
def cEncodeB (args : List AV) (K : AV → Prop) : Prop := ∃ (p : List Int) (n s : Int) (x : List Int × Int × Int × Int), args = [.d (.sl 1 (bytesR p)), .d (i64 n), .d (i64 s)] ∧ x = encR p n s ∧ K (codeB x)
theorem cEncodeB_ok : ∀ args K, cEncodeB args K → ∃ x, PCall Tryd.prog 12 args x ∧ K x := by
  rintro _ K ⟨p, n, s, _, rfl, rfl, h⟩; exact ⟨_, pcEncodeB p n s, h⟩
/-- of no page -/
theorem pcEncode0 (n s : Int) : PCall Tryd.prog 12 [nilS, .d (i64 n), .d (i64 s)] (codeB ([], 0, 0, 1)) := by
  have h := pcEncodeB [] n s
  have e : encR [] n s = ([], 0, 0, 1) := by simp [encR, encOk]
  rw [e] at h
  exact PCall.leArgsV (.cons nilSlV (.cons .rfl (.cons .rfl .nil))) h

/-! ### the law's: valid, received, example -/
def intsR (p : List Int) : List (List Dv) := p.map fun x => [i64 x]
noncomputable def lpV : Code := sub [1, 0, 1, 2, 3] (code Tryd.f23)
def tmV (ps ss : List (List Dv)) (i : Int) : List AV := [.d (.sl 1 ps), .d (.sl 1 ss), .bad, .bad, .bad, .d (i64 i)] ++ List.replicate 26 .bad
def TVa : List (Nat × (List AV → (AV → Prop) → Prop)) := [(25, cSeed)]
noncomputable def lpR : Code := sub [1, 1, 1, 0, 1, 2, 3] (code Tryd.f24)
def tmR (ps ss : List (List Dv)) (l : AV) (n i : Int) : List AV := [.d (.sl 1 ps), .d (.sl 1 ss), .bad, .bad, .bad, .bad, .bad, l, .d (i64 n), .d (i64 i)] ++ List.replicate 43 .bad
def TRe : List (Nat × (List AV → (AV → Prop) → Prop)) := [(12, cEncodeB), (14, cReceive)]
theorem TRe_ok : CallsOk Tryd.prog TRe := CallsOk.cons cEncodeB_ok (CallsOk.cons cReceive_ok CallsOk.nil)
noncomputable def lpE : Code := sub [1, 1, 0, 1, 2, 3] (code Tryd.f27)
def tmX (l : AV) (i : Int) : List AV := [.bad, l, .d (i64 i)] ++ List.replicate 11 .bad
end Go.Proofs.YtkjmhfbjdeidjaaDoor.Am
