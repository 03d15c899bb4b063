import Derived.Test.YtfeemohdpmdaoaaDoorKp
import Derived.Test.YtfeemohdpmdaoaaDoorJ5
/- ImageNotices is true of the given program, for every input, with the package variables as the program's text lays them; there are no further conditions. -/
namespace Go.Proofs.YtfeemohdpmdaoaaDoor.Am
set_option linter.unusedVariables false
open Go Go.RowKit Go.Proofs Go.ChangeShapes Go.WideShapes Go.ChangeAt

set_option maxRecDepth 100000 in
theorem lifted6 (os : Os) (started : os.Started) (H : Type) (enc : TypeId × Value → H) :
    ReturnsInHanded {} Tryd.checked os 6 .any (fun w args => (Rows.imageNoticesSpec.pre enc Tryd.prog Tryd.f6 [] false w args ∧ laidMetH Tryd.prog laid2 w) ∧ sizedMet enc Tryd.prog Tryd.f6 (OpenSpec.ofChange Rows.imageNoticesSpec) false w args) (Rows.imageNoticesSpec.post enc Tryd.prog Tryd.f6 false true false false) := by
  refine returnsInHanded_of_change_and (C := Tryd.checked) (X := fun w _ => laidMetH Tryd.prog laid2 w) (fun _ _ _ hh h => h.of_heap hh) Try_own started (by kernel_rfl) Tryd.func6
    (ChangeSpec.witness_shaped (enc := enc) (C := Tryd.checked) (os := os) (X := fun w _ => laidMetH Tryd.prog laid2 w) false (World.laidAll Tryd.prog os laid2) #[.slice none 0 0, .int .i64 0, .int .i64 0, .int .u16 0, .int .u8 0] 8 (World.laidAll_os _ _ _) (World.shaped_of_ZipB (by kernel_rfl) (by kernel_rfl)) (by kernel_rfl) (by kernel_rfl) (by kernel_rfl) (by rw [MakeChecks.laidMetH_plain _ _ _ (by kernel_rfl)]; exact laidMet_laidAll _ (by kernel_rfl) (by kernel_rfl))) ?_
  intro W base args ds gs before hval0 hW _ _ hL _
  have hval : ∀ (j : Nat) t v, Tryd.f6.params[j]? = some t → args[j]? = some v → Value.okWide Tryd.prog W .any base t v := hval0
  have hW' : DataW.Whole enc Tryd.prog Tryd.f6.params.toList Rows.imageNoticesSpec.vars false W args.toList ds gs before := hW
  obtain ⟨p, q, hA0, hV, rfl, hfz, hnd⟩ := hW
  have hA : DataW.TrodAll enc Tryd.prog W 0 (fun _ => true) true Tryd.f6.params.toList args.toList ds p := hA0
  rw [Tryd.params6] at hA hval
  obtain ⟨v0, vs0, d0, ds0, p0, q0, hargs, rfl, rfl, h0, r0⟩ := trodAll_cons hA
  obtain ⟨v1, vs1, d1, ds1, p1, q1, rfl, rfl, rfl, h1, r1⟩ := trodAll_cons r0
  obtain ⟨v2, vs2, d2, ds2, p2, q2, rfl, rfl, rfl, h2, r2⟩ := trodAll_cons r1
  obtain ⟨v3, vs3, d3, ds3, p3, q3, rfl, rfl, rfl, h3, r3⟩ := trodAll_cons r2
  obtain ⟨v4, vs4, d4, ds4, p4, q4, rfl, rfl, rfl, h4, r4⟩ := trodAll_cons r3
  obtain ⟨rfl, rfl, rfl⟩ := trodAll_nil r4
  obtain rfl : args = #[v0, v1, v2, v3, v4] := by cases args; simp_all
  obtain ⟨x0, t0, g0⟩ := arg_slice Tryd.underlying22 flatB (hval 0 22 v0 rfl rfl) h0
  obtain ⟨p, rfl, hl0, hb0⟩ := bytes_of t0
  obtain ⟨v, w1, g1⟩ := arg_int Tryd.underlying3 (hval 1 3 v1 rfl rfl) h1
  obtain ⟨t, w2, g2⟩ := arg_int Tryd.underlying3 (hval 2 3 v2 rfl rfl) h2
  obtain ⟨a, w3, g3⟩ := arg_int Tryd.underlying56 (hval 3 56 v3 rfl rfl) h3
  obtain ⟨c, w4, g4⟩ := arg_int Tryd.underlying5 (hval 4 5 v4 rfl rfl) h4
  exact law_calls (tb := 4) Try_laidOut rfl (by kernel_rfl) Tryd.underlying4 (by kernel_rfl) (fun ds hd => by
    match ds, hd with
    | [d1, d2, d3, d4, d5], _ => rfl) hW' _ (.cons g0 (.cons g1 (.cons g2 (.cons g3 (.cons g4 .nil))))) (pcLaw6 p v t a c hl0 hb0 (wf_u16 w3) (wf_u8 w4)) (glob_met hL)

theorem imageNotices : Rows.ImageNoticesSaid :=
  OpenClaim.holds_of_wide 6 Tryd.f6 rfl rfl rfl rfl rfl rfl rfl ⟨rfl, rfl, rfl, rfl, rfl⟩ rfl rfl rfl rfl rfl (by kernel_rfl) Tryd.func6 (by kernel_rfl)
    (of_decide_eq_true (by kernel_rfl)) (by unfold Func.isWrapper; first | (rw [if_pos (by decide +kernel)]; kernel_rfl) | (rw [if_neg (by decide +kernel)]; exact ⟨rfl, rfl⟩))
    (fun os started H enc _ => lifted6 os started H enc)

theorem imageNoticesCard : Rows.ImageNoticesCardSaid :=
  Claim7.holds_tied_plain_at .later [] [.data, .pinned] true (true, "19f0bc3f01a8af7f9bf31a37795c0751a7ffa5b7fa68303434d620793310e7be") false
    imageNotices (fun _ h => by cases h) (by kernel_rfl) (fun _ h => by cases h) imageNotices_row_tie rfl ⟨rfl, rfl⟩ (by kernel_rfl) rfl
    (fun f fn hf hfn => by
      obtain rfl : f = 6 := Option.some.inj ((show Tryd.prog.funcNamed "slotmesh/slotmeshlaw36.ImageNotices" = some 6 by kernel_rfl).symm.trans hf) |>.symm
      obtain rfl : fn = Tryd.f6 := (Option.some.inj (Tryd.func6.symm.trans hfn)).symm
      exact ⟨by kernel_rfl, fun j t ht => by
        rw [Tryd.params6] at ht
        have hm : t ∈ [22, 3, 3, 56, 5] := by simpa using Array.mem_of_getElem? ht
        have hall : ([22, 3, 3, 56, 5].all fun u => !Tryd.prog.wantsStandIn u) = true := by kernel_rfl
        exact (show Tryd.prog.wantsStandIn t = false by simpa using List.all_eq_true.1 hall t hm)⟩)
    (by kernel_rfl)
#print axioms imageNoticesCard

end Go.Proofs.YtfeemohdpmdaoaaDoor.Am
