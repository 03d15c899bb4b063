import Derived.Test.YtfeemohdpmdaoaaDoorJ3
import Derived.Test.YtfeemohdpmdaoaaDoorJ5
import Derived.Test.YtfeemohdpmdaoaaDoorTie
import Derived.Test.YtfeemohdpmdaoaaDoorCards
import Derived.ProofKit
import Derived.LaidMore
import Derived.OpenShut
import Derived.Stop.Joined
import Derived.Lay
import Derived.LaidOnce
import Derived.SevenTiedAt
namespace Go.Proofs.YtfeemohdpmdaoaaDoor.Am
set_option linter.unusedVariables false
open Go Go.RowKit Go.Proofs Go.ChangeShapes Go.WideShapes Go.ChangeAt

/-! ### the listed variables -/
theorem Try_own : ownKnob Tryd.prog.godebug = none := by kernel_rfl
theorem Try_laidOut : laidOutB Tryd.prog = true := by kernel_rfl
def laid2 : List (String × DataW Unit) := [("unicode/utf8.acceptRanges", Rows.laid_unicode_utf8_acceptRanges), ("unicode/utf8.first", Rows.laid_unicode_utf8_first)]
theorem gn1 : Tryd.prog.globalNamed "unicode/utf8.acceptRanges" = some 1 := by kernel_rfl
theorem flat_of {P : Program} {g n t : Nat} (h : (P.globals[g]?).map (·.type) = some t) (k : (((P.globals[g]?).map (·.type)).bind (flat P n)).isSome = true) : ∃ tys, flat P n t = some tys := by
  rw [h] at k; exact Option.isSome_iff_exists.1 k
theorem fl1 : (((Tryd.prog.globals[1]?).map (·.type)).bind (flat Tryd.prog 9)).isSome = true := by kernel_rfl
theorem glob_met {W : World} (h : laidMetH Tryd.prog laid2 W) : Glob (AllOf W) W := by
  rw [MakeChecks.laidMetH_plain _ _ _ (by kernel_rfl)] at h
  obtain ⟨ps, ⟨g1, t1, cs1, f1, p1, q1, hg1, ht1, hv1, hd1, _, _⟩, _, _⟩ := h
  obtain rfl := Option.some.inj (gn1.symm.trans hg1)
  have e1 := flat_of ht1 fl1
  obtain ⟨tys1, e1⟩ := e1
  have v1 := var_at gn1 hv1 hd1 e1 (k := 9) (vs := laidTable 1) (by kernel_rfl)
  have one : ∀ v ∈ laidTable 1, v.oneCell' = true := by
    have : ((laidTable 1).all fun v => v.oneCell') = true := by kernel_rfl
    intro v hv
    exact List.all_eq_true.1 this v hv
  refine glob_of fun g hg j v hj => ?_
  match g, hg with
  | 0, hg => exact absurd rfl hg
  | 1, _ => exact ⟨v1 j v hj, one v (List.mem_of_getElem? hj)⟩
  | n + 2, hg => exact absurd rfl hg

/-! ### arguments -/
theorem wf_u8 {x : Int} (h : (Lit.int .u8 x).wf = true) : 0 ≤ x ∧ x < 256 := by
  have : 0 ≤ x ∧ x ≤ 255 := by simpa [Lit.wf, IntKind.min, IntKind.max, IntKind.signed, IntKind.bits] using h
  omega
theorem wf_u16 {x : Int} (h : (Lit.int .u16 x).wf = true) : 0 ≤ x ∧ x < 65536 := by
  have : 0 ≤ x ∧ x ≤ 65535 := by simpa [Lit.wf, IntKind.min, IntKind.max, IntKind.signed, IntKind.bits] using h
  omega
theorem wf_u64 {x : Int} (h : (Lit.int .u64 x).wf = true) : 0 ≤ x ∧ x < 18446744073709551616 := by
  have : 0 ≤ x ∧ x ≤ 18446744073709551615 := by simpa [Lit.wf, IntKind.min, IntKind.max, IntKind.signed, IntKind.bits] using h
  omega
theorem digs_of {x : Dv} (h : HasTy (.sl [.int .u64]) x) : ∃ p : List Int, x = .sl 1 (digR p) ∧ p.length ≤ maxLen ∧ True := by
  cases h with
  | sl _ xs hl h =>
    have key : ∀ (xs : List (List Dv)), (∀ row ∈ xs, HasTys [.int .u64] row) → ∃ p : List Int, xs = digR p := by
      intro xs
      induction xs with
      | nil => exact fun _ => ⟨[], rfl⟩
      | cons row xs ih =>
        intro h
        obtain ⟨p, rfl⟩ := ih fun r hr => h r (List.mem_cons_of_mem _ hr)
        have h0 := h row (List.mem_cons_self ..)
        cases h0 with
        | cons h1 h2 => cases h2 with
          | nil => cases h1 with
            | int _ n hw => exact ⟨n :: p, rfl⟩
    obtain ⟨p, rfl⟩ := key xs h
    exact ⟨p, rfl, by simpa [digR] using hl, trivial⟩
theorem parts_of {x : Dv} (h : HasTy (.sl [.sl [.int .u8]]) x) : ∃ ps : List (List Int), x = .sl 1 (partsR ps) ∧ ps.length ≤ maxLen ∧ True := by
  cases h with
  | sl _ xs hl h =>
    have key : ∀ (xs : List (List Dv)), (∀ row ∈ xs, HasTys [.sl [.int .u8]] row) → ∃ p : List (List Int), xs = partsR p := by
      intro xs
      induction xs with
      | nil => exact fun _ => ⟨[], rfl⟩
      | cons row xs ih =>
        intro h
        obtain ⟨p, rfl⟩ := ih fun r hr => h r (List.mem_cons_of_mem _ hr)
        have h0 := h row (List.mem_cons_self ..)
        cases h0 with
        | cons h1 h2 => cases h2 with
          | nil =>
            obtain ⟨b, rfl, _⟩ := bytes_of h1
            exact ⟨b :: p, rfl⟩
    obtain ⟨p, rfl⟩ := key xs h
    exact ⟨p, rfl, by simpa [partsR] using hl, trivial⟩
theorem proofs_of {x : Dv} (h : HasTy (.sl [.sl [.int .u64]]) x) : ∃ ps : List (List Int), x = .sl 1 (proofsR ps) := by
  cases h with
  | sl _ xs hl h =>
    have key : ∀ (xs : List (List Dv)), (∀ row ∈ xs, HasTys [.sl [.int .u64]] row) → ∃ p : List (List Int), xs = proofsR p := by
      intro xs
      induction xs with
      | nil => exact fun _ => ⟨[], rfl⟩
      | cons row xs ih =>
        intro h
        obtain ⟨p, rfl⟩ := ih fun r hr => h r (List.mem_cons_of_mem _ hr)
        have h0 := h row (List.mem_cons_self ..)
        cases h0 with
        | cons h1 h2 => cases h2 with
          | nil =>
            obtain ⟨b, rfl, _⟩ := digs_of h1
            exact ⟨b :: p, rfl⟩
    obtain ⟨p, rfl⟩ := key xs h
    exact ⟨p, rfl⟩
theorem lists_of {x : Dv} (h : HasTy (.sl [.int .i64, .sl [.int .u8]]) x) : ∃ xs : List (List Dv), x = .sl 2 xs ∧ ∀ r ∈ xs, ∃ (m : Int) (ys : List (List Dv)), r = [i64 m, .sl 1 ys] := by
  cases h with
  | sl _ xs hl h =>
    refine ⟨xs, rfl, fun r hr => ?_⟩
    have h0 := h r hr
    cases h0 with
    | cons h1 h2 => cases h2 with
      | cons h3 h4 => cases h4 with
        | nil => cases h1 with
          | int _ n hw => cases h3 with
            | sl _ ys hl' h' => exact ⟨n, ys, rfl⟩
theorem row_spread {row : List Dv} (h : HasTys [.int .i64, .int .i64, .int .u64, .int .i64, .sl [.sl [.int .u8]], .sl [.sl [.int .u64]], .sl [.int .i64, .sl [.int .u8]], .sl [.int .u64], .int .i64, .int .i64, .int .i64, .int .i64, .int .i64] row) : ∃ s : SprT, AV.agg (row.map .d) = spV s ∧ RowsOk s := by
  obtain _ | ⟨h1, h⟩ := h
  obtain _ | ⟨h2, h⟩ := h
  obtain _ | ⟨h3, h⟩ := h
  obtain _ | ⟨h4, h⟩ := h
  obtain _ | ⟨h5, h⟩ := h
  obtain _ | ⟨h6, h⟩ := h
  obtain _ | ⟨h7, h⟩ := h
  obtain _ | ⟨h8, h⟩ := h
  obtain _ | ⟨h9, h⟩ := h
  obtain _ | ⟨ha, h⟩ := h
  obtain _ | ⟨hb, h⟩ := h
  obtain _ | ⟨hc, h⟩ := h
  obtain _ | ⟨hd, h⟩ := h
  cases h
  obtain ⟨ps, rfl, _⟩ := parts_of h5
  obtain ⟨qs, rfl⟩ := proofs_of h6
  obtain ⟨rw, rfl, hrw⟩ := lists_of h7
  obtain ⟨pf, rfl, _⟩ := digs_of h8
  cases h1; cases h2; cases h3; cases h4; cases h9; cases ha; cases hb; cases hc; cases hd
  exact ⟨⟨⟨_, _, _, _⟩, ps, qs, rw, pf, _, _, _, _, _⟩, rfl, hrw⟩
theorem flatB : flat Tryd.prog 20 22 = some [.sl [.int .u8]] := by kernel_rfl
theorem flatP : flat Tryd.prog 20 23 = some [.sl [.sl [.int .u8]]] := by kernel_rfl
theorem flatD : flat Tryd.prog 20 29 = some [.sl [.int .u64]] := by kernel_rfl
theorem flatS : flat Tryd.prog 20 33 = some [.int .i64, .int .i64, .int .u64, .int .i64, .sl [.sl [.int .u8]], .sl [.sl [.int .u64]], .sl [.int .i64, .sl [.int .u8]], .sl [.int .u64], .int .i64, .int .i64, .int .i64, .int .i64, .int .i64] := by kernel_rfl
end Go.Proofs.YtfeemohdpmdaoaaDoor.Am
