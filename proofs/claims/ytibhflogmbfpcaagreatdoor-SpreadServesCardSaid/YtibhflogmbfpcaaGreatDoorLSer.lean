import Derived.Test.YtibhflogmbfpcaaGreatDoorP8J5
/- SpreadServes is true of the given program, for every input, with the package variables as the program's text lays them; there are no further conditions. -/
namespace Go.Proofs.YtibhflogmbfpcaaGreatDoor.Am
set_option linter.unusedVariables false
open Go Go.RowKit Go.Proofs Go.ChangeShapes Go.WideShapes Go.ChangeAt

set_option maxRecDepth 100000 in
theorem lifted8 (os : Os) (started : os.Started) (H : Type) (enc : TypeId × Value → H) :
    ReturnsInHanded {} Tryz.checked os 8 .any (fun w args => (Rows.spreadServesSpec.pre enc Tryz.prog Tryz.f8 [] false w args ∧ laidMetH Tryz.prog laid5 w) ∧ sizedMet enc Tryz.prog Tryz.f8 (OpenSpec.ofChange Rows.spreadServesSpec) false w args) (Rows.spreadServesSpec.post enc Tryz.prog Tryz.f8 false true false false) := by
  refine returnsInHanded_of_change_and (C := Tryz.checked) (X := fun w _ => laidMetH Tryz.prog laid5 w) (fun _ _ _ hh h => h.of_heap hh) Try_own started (by kernel_rfl) Tryz.func8
    (ChangeSpec.witness_shaped (enc := enc) (C := Tryz.checked) (os := os) (X := fun w _ => laidMetH Tryz.prog laid5 w) false (World.laidAll Tryz.prog os laid5) #[.agg #[.int .i64 0, .int .i64 0, .int .u64 0, .int .i64 0, .slice none 0 0, .slice none 0 0, .slice none 0 0, .slice none 0 0, .int .i64 0, .int .i64 0, .int .i64 0, .int .i64 0, .int .i64 0], .slice none 0 0, .int .i64 0] 8 (World.laidAll_os _ _ _) (World.shaped_of_ZipB (by kernel_rfl) (by kernel_rfl)) (by kernel_rfl) (by kernel_rfl) (by kernel_rfl) (by rw [MakeChecks.laidMetH_plain _ _ _ (by kernel_rfl)]; exact laidMet_laidAll _ (by kernel_rfl) (by kernel_rfl))) ?_
  intro W base args ds gs before hval0 hW _ _ hL _
  have hval : ∀ (j : Nat) t v, Tryz.f8.params[j]? = some t → args[j]? = some v → Value.okWide Tryz.prog W .any base t v := hval0
  have hW' : DataW.Whole enc Tryz.prog Tryz.f8.params.toList Rows.spreadServesSpec.vars false W args.toList ds gs before := hW
  obtain ⟨p, q, hA0, hV, rfl, hfz, hnd⟩ := hW
  have hA : DataW.TrodAll enc Tryz.prog W 0 (fun _ => true) true Tryz.f8.params.toList args.toList ds p := hA0
  rw [Tryz.params8] at hA hval
  obtain ⟨v0, vs0, d0, ds0, p0, q0, hargs, rfl, rfl, h0, r0⟩ := trodAll_cons hA
  obtain ⟨v1, vs1, d1, ds1, p1, q1, rfl, rfl, rfl, h1, r1⟩ := trodAll_cons r0
  obtain ⟨v2, vs2, d2, ds2, p2, q2, rfl, rfl, rfl, h2, r2⟩ := trodAll_cons r1
  obtain ⟨rfl, rfl, rfl⟩ := trodAll_nil r2
  obtain rfl : args = #[v0, v1, v2] := by cases args; simp_all
  obtain ⟨x0, t0, g0⟩ := arg_agg (n := 20) (.inl ⟨_, Tryz.underlying32⟩) flatSt (hval 0 32 v0 rfl rfl) h0
  obtain ⟨s, e0, hb0⟩ := row_state t0
  rw [e0] at g0
  obtain ⟨x1, t1, g1⟩ := arg_slice Tryz.underlying36 flatNe (hval 1 36 v1 rfl rfl) h1
  obtain ⟨l, rfl, hl1, hb1⟩ := near_of t1
  obtain ⟨f, w2, g2⟩ := arg_int Tryz.underlying3 (hval 2 3 v2 rfl rfl) h2
  exact law_calls (tb := 4) Try_laidOut rfl (by kernel_rfl) Tryz.underlying4 (by kernel_rfl) (fun ds hd => by
    match ds, hd with
    | [d1, d2, d3], _ => rfl) hW' _ (.cons g0 (.cons g1 (.cons g2 .nil))) (pcLaw8 s l f) (glob_met hL)

theorem spreadServes : Rows.SpreadServesSaid :=
  OpenClaim.holds_of_wide 8 Tryz.f8 rfl rfl rfl rfl rfl rfl rfl ⟨rfl, rfl, rfl, rfl, rfl⟩ rfl rfl rfl rfl rfl (by kernel_rfl) Tryz.func8 closed8
    (of_decide_eq_true (by kernel_rfl)) (by unfold Func.isWrapper; first | (rw [if_pos (by decide +kernel)]; kernel_rfl) | (rw [if_neg (by decide +kernel)]; exact ⟨rfl, rfl⟩))
    (fun os started H enc _ => lifted8 os started H enc)

theorem spreadServesCard : Rows.SpreadServesCardSaid :=
  Claim7.holds_tied_plain_at .later [] [.data, .data, .data, .data, .pinned] true (true, "e961c720dafc454922911df2901c5a4c1fa30ff6e577b326ddf1969b11d365c1") false
    spreadServes (fun _ h => by cases h) (by kernel_rfl) (fun _ h => by cases h) spreadServes_row_tie rfl ⟨rfl, rfl⟩ (by kernel_rfl) rfl
    (fun f fn hf hfn => by
      obtain rfl : f = 8 := Option.some.inj ((show Tryz.prog.funcNamed "slotmesh/slotmeshlaw39.SpreadServes" = some 8 by kernel_rfl).symm.trans hf) |>.symm
      obtain rfl : fn = Tryz.f8 := (Option.some.inj (Tryz.func8.symm.trans hfn)).symm
      exact ⟨by kernel_rfl, fun j t ht => by
        rw [Tryz.params8] at ht
        have hm : t ∈ [32, 36, 3] := by simpa using Array.mem_of_getElem? ht
        have hall : ([32, 36, 3].all fun u => !Tryz.prog.wantsStandIn u) = true := by kernel_rfl
        exact (show Tryz.prog.wantsStandIn t = false by simpa using List.all_eq_true.1 hall t hm)⟩)
    (by kernel_rfl)
#print axioms spreadServesCard

end Go.Proofs.YtibhflogmbfpcaaGreatDoor.Am
