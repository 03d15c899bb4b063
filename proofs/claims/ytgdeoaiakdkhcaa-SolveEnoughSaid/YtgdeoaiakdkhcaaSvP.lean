import Derived.Test.YtgdeoaiakdkhcaaSvO
import Derived.Test.YtgdeoaiakdkhcaaRows
namespace Go.Proofs.Ytgdeoaiakdkhcaa.Am
set_option linter.unusedVariables false
open Go Go.RowKit Go.Proofs Go.ChangeShapes Go.WideShapes Go.ChangeAt

theorem Try_own : ownKnob Try.prog.godebug = none := by kernel_rfl
theorem Try_laidOut : laidOutB Try.prog = true := by kernel_rfl
theorem flat22 : flat Try.prog 20 22 = some [.sl [.int .i64, .sl [.int .u8]]] := by kernel_rfl

/-- bytes of a row -/
def goodRow (r : Row) : Prop := r.2.length ≤ maxLen ∧ (∀ x ∈ r.2, 0 ≤ x ∧ x < 256)
theorem bytes_of {x : Dv} (h : HasTy (.sl [.int .u8]) x) : ∃ p : List Int, x = .sl 1 (bytesR p) ∧ p.length ≤ maxLen ∧ ∀ a ∈ p, 0 ≤ a ∧ a < 256 := by
  cases h with
  | sl _ xs hl h =>
    have key : ∀ (xs : List (List Dv)), (∀ row ∈ xs, HasTys [.int .u8] row) → ∃ p : List Int, xs = bytesR p ∧ ∀ a ∈ p, 0 ≤ a ∧ a < 256 := by
      intro xs
      induction xs with
      | nil => exact fun _ => ⟨[], rfl, fun a h => by cases h⟩
      | cons row xs ih =>
        intro h
        obtain ⟨p, rfl, hp⟩ := ih fun r hr => h r (List.mem_cons_of_mem _ hr)
        have h0 := h row (List.mem_cons_self ..)
        cases h0 with
        | cons h1 h2 => cases h2 with
          | nil => cases h1 with
            | int _ n hw =>
              refine ⟨n :: p, rfl, fun a ha => ?_⟩
              rcases List.mem_cons.1 ha with rfl | ha
              · simp [Lit.wf, IntKind.min, IntKind.max, IntKind.signed, IntKind.bits] at hw; omega
              · exact hp a ha
    obtain ⟨p, rfl, hp⟩ := key xs h
    exact ⟨p, rfl, by simpa [bytesR] using hl, hp⟩
theorem rows_of {x : Dv} (h : HasTy (.sl [.int .i64, .sl [.int .u8]]) x) : ∃ l : List Row, x = .sl 2 (rowsR l) ∧ l.length ≤ maxLen ∧ ∀ r ∈ l, goodRow r := by
  cases h with
  | sl _ xs hl h =>
    have key : ∀ (xs : List (List Dv)), (∀ row ∈ xs, HasTys [.int .i64, .sl [.int .u8]] row) → ∃ l : List Row, xs = rowsR l ∧ ∀ r ∈ l, goodRow r := by
      intro xs
      induction xs with
      | nil => exact fun _ => ⟨[], rfl, fun a h => by cases h⟩
      | cons row xs ih =>
        intro h
        obtain ⟨l, rfl, hp⟩ := ih fun r hr => h r (List.mem_cons_of_mem _ hr)
        have h0 := h row (List.mem_cons_self ..)
        cases h0 with
        | cons h1 h2 => cases h2 with
          | cons h2 h3 => cases h3 with
            | nil => cases h1 with
              | int _ n hw =>
                obtain ⟨p, rfl, h4, h5⟩ := bytes_of h2
                refine ⟨(n, p) :: l, rfl, fun r hr => ?_⟩
                rcases List.mem_cons.1 hr with rfl | hr
                · exact ⟨h4, h5⟩
                · exact hp r hr
    obtain ⟨l, rfl, hp⟩ := key xs h
    exact ⟨l, rfl, by simpa [rowsR] using hl, hp⟩

set_option maxRecDepth 100000 in
theorem lifted8 (os : Os) (started : os.Started) (H : Type) (enc : TypeId × Value → H) :
    ReturnsInHanded {} Try.checked os 8 .any (Rows.solveSumsSpec.pre6 enc Try.prog Try.f8 Rows.solveSumsRow.domain false) (Rows.solveSumsSpec.post enc Try.prog Try.f8 false true false false) := by
  refine returnsInHanded_of_change (C := Try.checked) Try_own started (by kernel_rfl) Try.func8
    (ChangeSpec.witness6 (enc := enc) (C := Try.checked) false ⟨#[], #[.slice none 0 0, .int .u16 0, .int .u16 0], []⟩ 8 (by kernel_rfl) (by kernel_rfl) (by kernel_rfl) (by kernel_rfl)) ?_
  intro W base args ds gs before hval0 hW hcnd _
  have hval : ∀ (j : Nat) t v, Try.f8.params[j]? = some t → args[j]? = some v → Value.okWide Try.prog W .any base t v := hval0
  have hW' : DataW.Whole enc Try.prog Try.f8.params.toList Rows.solveSumsSpec.vars false W args.toList ds gs before := hW
  obtain ⟨p, q, hA0, hV, rfl, hfz, hnd⟩ := hW
  have hA : DataW.TrodAll enc Try.prog W 0 (fun _ => true) true Try.f8.params.toList args.toList ds p := hA0
  rw [Try.params8] at hA hval
  obtain ⟨v0, vs0, d0, ds0, p0, q0, hargs, rfl, rfl, h0, r0⟩ := trodAll_cons hA
  obtain ⟨v1, vs1, d1, ds1, p1, q1, rfl, rfl, rfl, h1, r1⟩ := trodAll_cons r0
  obtain ⟨v2, vs2, d2, ds2, p2, q2, rfl, rfl, rfl, h2, r2⟩ := trodAll_cons r1
  obtain ⟨rfl, rfl, rfl⟩ := trodAll_nil r2
  obtain rfl : args = #[v0, v1, v2] := by cases args; simp_all
  obtain ⟨x0, t0, g0⟩ := arg_slice Try.underlying22 flat22 (hval 0 22 v0 rfl rfl) h0
  obtain ⟨l, rfl, hl, _⟩ := rows_of t0
  obtain ⟨a, wa, g1⟩ := arg_int Try.underlying40 (hval 1 40 v1 rfl rfl) h1
  obtain ⟨c, wc, g2⟩ := arg_int Try.underlying40 (hval 2 40 v2 rfl rfl) h2
  exact law_calls (tb := 4) Try_laidOut rfl (by kernel_rfl) Try.underlying4 (by kernel_rfl) (fun ds hd => by
    match ds, hd with
    | [d1, d2, d3], _ => rfl) hW' _ (.cons g0 (.cons g1 (.cons g2 .nil))) (pc8 l a c hl (u16_bd wa) (u16_bd wc))

theorem solveSums : Rows.SolveSumsSaid :=
  OpenClaim.holds_of_wide 8 Try.f8 rfl rfl rfl rfl rfl rfl rfl ⟨rfl, rfl, rfl, rfl, rfl⟩ rfl rfl rfl rfl rfl (by kernel_rfl) Try.func8 (by kernel_rfl)
    (of_decide_eq_true (by kernel_rfl)) (by unfold Func.isWrapper; first | (rw [if_pos (by decide +kernel)]; kernel_rfl) | (rw [if_neg (by decide +kernel)]; exact ⟨rfl, rfl⟩))
    (fun os started H enc _ => lifted8 os started H enc)
#print axioms solveSums
end Go.Proofs.Ytgdeoaiakdkhcaa.Am
