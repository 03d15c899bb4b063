import Derived.Test.YtibhflogmbfpcaaGreatDoorPoJ5
/- SpreadLoads is true of the given program, for every input, with the package variables as the program's text lays them; there are no further conditions. -/
namespace Go.Proofs.YtibhflogmbfpcaaGreatDoor.Am
set_option linter.unusedVariables false
open Go Go.RowKit Go.Proofs Go.ChangeShapes Go.WideShapes Go.ChangeAt

set_option maxRecDepth 100000 in
theorem lifted5 (os : Os) (started : os.Started) (H : Type) (enc : TypeId × Value → H) :
    ReturnsInHanded {} Tryz.checked os 5 .any (fun w args => (Rows.spreadLoadsSpec.pre enc Tryz.prog Tryz.f5 [] false w args ∧ laidMetH Tryz.prog laid5 w) ∧ sizedMet enc Tryz.prog Tryz.f5 (OpenSpec.ofChange Rows.spreadLoadsSpec) false w args) (Rows.spreadLoadsSpec.post enc Tryz.prog Tryz.f5 false true false false) := by
  refine returnsInHanded_of_change_and (C := Tryz.checked) (X := fun w _ => laidMetH Tryz.prog laid5 w) (fun _ _ _ hh h => h.of_heap hh) BXu9 started (by kernel_rfl) Tryz.func5
    (ChangeSpec.witness_shaped (enc := enc) (C := Tryz.checked) (os := os) (X := fun w _ => laidMetH Tryz.prog laid5 w) false (World.laidAll Tryz.prog os laid5) #[.slice none 0 0, .int .i64 0, .int .i64 0, .int .i64 0, .int .i64 0, .slice none 0 0] 8 (World.laidAll_os _ _ _) (World.shaped_of_ZipB (by kernel_rfl) (by kernel_rfl)) (by kernel_rfl) (by kernel_rfl) (by kernel_rfl) (by rw [MakeChecks.laidMetH_plain _ _ _ (by kernel_rfl)]; exact laidMet_laidAll _ (by kernel_rfl) (by kernel_rfl))) ?_
  intro W base args ds gs before hval0 hW _ _ hL _
  have hval : ∀ (j : Nat) t v, Tryz.f5.params[j]? = some t → args[j]? = some v → Value.okWide Tryz.prog W .any base t v := hval0
  have hW' : DataW.Whole enc Tryz.prog Tryz.f5.params.toList Rows.spreadLoadsSpec.vars false W args.toList ds gs before := hW
  obtain ⟨p, q, hA0, hV, rfl, hfz, hnd⟩ := hW
  have hA : DataW.TrodAll enc Tryz.prog W 0 (fun _ => true) true Tryz.f5.params.toList args.toList ds p := hA0
  rw [Tryz.params5] at hA hval
  obtain ⟨v0, vs0, d0, ds0, p0, q0, hargs, rfl, rfl, h0, r0⟩ := trodAll_cons hA
  obtain ⟨v1, vs1, d1, ds1, p1, q1, rfl, rfl, rfl, h1, r1⟩ := trodAll_cons r0
  obtain ⟨v2, vs2, d2, ds2, p2, q2, rfl, rfl, rfl, h2, r2⟩ := trodAll_cons r1
  obtain ⟨v3, vs3, d3, ds3, p3, q3, rfl, rfl, rfl, h3, r3⟩ := trodAll_cons r2
  obtain ⟨v4, vs4, d4, ds4, p4, q4, rfl, rfl, rfl, h4, r4⟩ := trodAll_cons r3
  obtain ⟨v5, vs5, d5, ds5, p5, q5, rfl, rfl, rfl, h5, r5⟩ := trodAll_cons r4
  obtain ⟨rfl, rfl, rfl⟩ := trodAll_nil r5
  obtain rfl : args = #[v0, v1, v2, v3, v4, v5] := by cases args; simp_all
  obtain ⟨x0, t0, g0⟩ := AYd9 Tryz.underlying33 CAz9 (hval 0 33 v0 rfl rfl) h0
  obtain ⟨p, rfl, hl0, hb0⟩ := BSb9 t0
  obtain ⟨v, w1, g1⟩ := AYe9 Tryz.underlying3 (hval 1 3 v1 rfl rfl) h1
  obtain ⟨t, w2, g2⟩ := AYe9 Tryz.underlying3 (hval 2 3 v2 rfl rfl) h2
  obtain ⟨sd, w3, g3⟩ := AYe9 Tryz.underlying3 (hval 3 3 v3 rfl rfl) h3
  obtain ⟨fr, w4, g4⟩ := AYe9 Tryz.underlying3 (hval 4 3 v4 rfl rfl) h4
  obtain ⟨x5, t5, g5⟩ := AYd9 Tryz.underlying51 CAy9 (hval 5 51 v5 rfl rfl) h5
  obtain ⟨l, rfl, hl5, hb5⟩ := BPf9 t5
  exact BIq9 (tb := 4) BAk9 rfl (by kernel_rfl) Tryz.underlying4 (by kernel_rfl) (fun ds hd => by
    match ds, hd with
    | [d1, d2, d3, d4, d5, d6], _ => rfl) hW' _ (.cons g0 (.cons g1 (.cons g2 (.cons g3 (.cons g4 (.cons g5 .nil)))))) (BZk9 p v t sd fr l hl0 hb0 hb5) (BQt9 hL)

theorem spreadLoads : Rows.SpreadLoadsSaid :=
  OpenClaim.holds_of_wide 5 Tryz.f5 rfl rfl rfl rfl rfl rfl rfl ⟨rfl, rfl, rfl, rfl, rfl⟩ rfl rfl rfl rfl rfl (by kernel_rfl) Tryz.func5 BWt9
    (of_decide_eq_true (by kernel_rfl)) (by unfold Func.isWrapper; first | (rw [if_pos (by decide +kernel)]; kernel_rfl) | (rw [if_neg (by decide +kernel)]; exact ⟨rfl, rfl⟩))
    (fun os started H enc _ => lifted5 os started H enc)

theorem spreadLoadsCard : Rows.SpreadLoadsCardSaid :=
  Claim7.holds_tied_plain_at .later [] [.data, .data, .data, .data, .pinned] true (true, "e961c720dafc454922911df2901c5a4c1fa30ff6e577b326ddf1969b11d365c1") false
    spreadLoads (fun _ h => by cases h) (by kernel_rfl) (fun _ h => by cases h) spreadLoads_row_tie rfl ⟨rfl, rfl⟩ (by kernel_rfl) rfl
    (fun f fn hf hfn => by
      obtain rfl : f = 5 := Option.some.inj ((show Tryz.prog.funcNamed "slotmesh/slotmeshlaw39.SpreadLoads" = some 5 by kernel_rfl).symm.trans hf) |>.symm
      obtain rfl : fn = Tryz.f5 := (Option.some.inj (Tryz.func5.symm.trans hfn)).symm
      exact ⟨by kernel_rfl, fun j t ht => by
        rw [Tryz.params5] at ht
        have hm : t ∈ [33, 3, 3, 3, 3, 51] := by simpa using Array.mem_of_getElem? ht
        have hall : ([33, 3, 3, 3, 3, 51].all fun u => !Tryz.prog.wantsStandIn u) = true := by kernel_rfl
        exact (show Tryz.prog.wantsStandIn t = false by simpa using List.all_eq_true.1 hall t hm)⟩)
    (by kernel_rfl)
#print axioms spreadLoadsCard

end Go.Proofs.YtibhflogmbfpcaaGreatDoor.Am
