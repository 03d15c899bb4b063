import Derived.Test.YtibhflogmbfpcaaGreatDoorP4J5
/- SpreadValid is true of the given program, for every input, with the package variables as the program's text lays them; there are no further conditions. -/
namespace Go.Proofs.YtibhflogmbfpcaaGreatDoor.Am
set_option linter.unusedVariables false
open Go Go.RowKit Go.Proofs Go.ChangeShapes Go.WideShapes Go.ChangeAt

set_option maxRecDepth 100000 in
theorem lifted4 (os : Os) (started : os.Started) (H : Type) (enc : TypeId × Value → H) :
    ReturnsInHanded {} Tryz.checked os 4 .any (fun w args => (Rows.spreadValidSpec.pre enc Tryz.prog Tryz.f4 [] false w args ∧ laidMetH Tryz.prog laid5 w) ∧ sizedMet enc Tryz.prog Tryz.f4 (OpenSpec.ofChange Rows.spreadValidSpec) false w args) (Rows.spreadValidSpec.post enc Tryz.prog Tryz.f4 false true false false) := by
  refine returnsInHanded_of_change_and (C := Tryz.checked) (X := fun w _ => laidMetH Tryz.prog laid5 w) (fun _ _ _ hh h => h.of_heap hh) Try_own started (by kernel_rfl) Tryz.func4
    (ChangeSpec.witness_shaped (enc := enc) (C := Tryz.checked) (os := os) (X := fun w _ => laidMetH Tryz.prog laid5 w) false (World.laidAll Tryz.prog os laid5) #[.agg #[.int .i64 0, .int .i64 0, .int .u64 0, .int .i64 0, .slice none 0 0, .slice none 0 0, .slice none 0 0, .slice none 0 0, .int .i64 0, .int .i64 0, .int .i64 0, .int .i64 0, .int .i64 0], .agg #[.int .i64 0, .int .i64 0, .int .u64 0, .int .i64 0], .int .i64 0, .int .i64 0, .agg #[.int .i64 0, .int .i64 0, .slice none 0 0, .slice none 0 0], .slice none 0 0] 8 (World.laidAll_os _ _ _) (World.shaped_of_ZipB (by kernel_rfl) (by kernel_rfl)) (by kernel_rfl) (by kernel_rfl) (by kernel_rfl) (by rw [MakeChecks.laidMetH_plain _ _ _ (by kernel_rfl)]; exact laidMet_laidAll _ (by kernel_rfl) (by kernel_rfl))) ?_
  intro W base args ds gs before hval0 hW _ _ hL _
  have hval : ∀ (j : Nat) t v, Tryz.f4.params[j]? = some t → args[j]? = some v → Value.okWide Tryz.prog W .any base t v := hval0
  have hW' : DataW.Whole enc Tryz.prog Tryz.f4.params.toList Rows.spreadValidSpec.vars false W args.toList ds gs before := hW
  obtain ⟨p, q, hA0, hV, rfl, hfz, hnd⟩ := hW
  have hA : DataW.TrodAll enc Tryz.prog W 0 (fun _ => true) true Tryz.f4.params.toList args.toList ds p := hA0
  rw [Tryz.params4] at hA hval
  obtain ⟨v0, vs0, d0, ds0, p0, q0, hargs, rfl, rfl, h0, r0⟩ := trodAll_cons hA
  obtain ⟨v1, vs1, d1, ds1, p1, q1, rfl, rfl, rfl, h1, r1⟩ := trodAll_cons r0
  obtain ⟨v2, vs2, d2, ds2, p2, q2, rfl, rfl, rfl, h2, r2⟩ := trodAll_cons r1
  obtain ⟨v3, vs3, d3, ds3, p3, q3, rfl, rfl, rfl, h3, r3⟩ := trodAll_cons r2
  obtain ⟨v4, vs4, d4, ds4, p4, q4, rfl, rfl, rfl, h4, r4⟩ := trodAll_cons r3
  obtain ⟨v5, vs5, d5, ds5, p5, q5, rfl, rfl, rfl, h5, r5⟩ := trodAll_cons r4
  obtain ⟨rfl, rfl, rfl⟩ := trodAll_nil r5
  obtain rfl : args = #[v0, v1, v2, v3, v4, v5] := by cases args; simp_all
  obtain ⟨x0, t0, g0⟩ := arg_agg (n := 20) (.inl ⟨_, Tryz.underlying32⟩) flatSt (hval 0 32 v0 rfl rfl) h0
  obtain ⟨s, e0, hb0⟩ := row_state t0
  rw [e0] at g0
  obtain ⟨x1, t1, g1⟩ := arg_agg (n := 20) (.inl ⟨_, Tryz.underlying24⟩) flatNo (hval 1 24 v1 rfl rfl) h1
  obtain ⟨n, e1, hb1⟩ := row_notice t1
  rw [e1] at g1
  obtain ⟨p, w2, g2⟩ := arg_int Tryz.underlying3 (hval 2 3 v2 rfl rfl) h2
  obtain ⟨f, w3, g3⟩ := arg_int Tryz.underlying3 (hval 3 3 v3 rfl rfl) h3
  obtain ⟨x4, t4, g4⟩ := arg_agg (n := 20) (.inl ⟨_, Tryz.underlying35⟩) flatBk (hval 4 35 v4 rfl rfl) h4
  obtain ⟨x, e4, hb4⟩ := row_block t4
  rw [e4] at g4
  obtain ⟨x5, t5, g5⟩ := arg_slice Tryz.underlying36 flatNe (hval 5 36 v5 rfl rfl) h5
  obtain ⟨l, rfl, hl5, hb5⟩ := near_of t5
  exact law_calls (tb := 4) Try_laidOut rfl (by kernel_rfl) Tryz.underlying4 (by kernel_rfl) (fun ds hd => by
    match ds, hd with
    | [d1, d2, d3, d4, d5, d6], _ => rfl) hW' _ (.cons g0 (.cons g1 (.cons g2 (.cons g3 (.cons g4 (.cons g5 .nil)))))) (pcLaw4 s n p f x l hb4) (glob_met hL)

theorem spreadValid : Rows.SpreadValidSaid :=
  OpenClaim.holds_of_wide 4 Tryz.f4 rfl rfl rfl rfl rfl rfl rfl ⟨rfl, rfl, rfl, rfl, rfl⟩ rfl rfl rfl rfl rfl (by kernel_rfl) Tryz.func4 closed4
    (of_decide_eq_true (by kernel_rfl)) (by unfold Func.isWrapper; first | (rw [if_pos (by decide +kernel)]; kernel_rfl) | (rw [if_neg (by decide +kernel)]; exact ⟨rfl, rfl⟩))
    (fun os started H enc _ => lifted4 os started H enc)

theorem spreadValidCard : Rows.SpreadValidCardSaid :=
  Claim7.holds_tied_plain_at .later [] [.data, .data, .data, .data, .pinned] true (true, "e961c720dafc454922911df2901c5a4c1fa30ff6e577b326ddf1969b11d365c1") false
    spreadValid (fun _ h => by cases h) (by kernel_rfl) (fun _ h => by cases h) spreadValid_row_tie rfl ⟨rfl, rfl⟩ (by kernel_rfl) rfl
    (fun f fn hf hfn => by
      obtain rfl : f = 4 := Option.some.inj ((show Tryz.prog.funcNamed "slotmesh/slotmeshlaw39.SpreadValid" = some 4 by kernel_rfl).symm.trans hf) |>.symm
      obtain rfl : fn = Tryz.f4 := (Option.some.inj (Tryz.func4.symm.trans hfn)).symm
      exact ⟨by kernel_rfl, fun j t ht => by
        rw [Tryz.params4] at ht
        have hm : t ∈ [32, 24, 3, 3, 35, 36] := by simpa using Array.mem_of_getElem? ht
        have hall : ([32, 24, 3, 3, 35, 36].all fun u => !Tryz.prog.wantsStandIn u) = true := by kernel_rfl
        exact (show Tryz.prog.wantsStandIn t = false by simpa using List.all_eq_true.1 hall t hm)⟩)
    (by kernel_rfl)
#print axioms spreadValidCard

end Go.Proofs.YtibhflogmbfpcaaGreatDoor.Am
