/- From a contract in abstract values to a law: it returns true, its arguments read as they did. -/
import Derived.Test.YtgdeoaiakdkhcaaAmZg
import Derived.ProofKit
namespace Go.Proofs.Ytgdeoaiakdkhcaa.Am
set_option linter.unusedVariables false
open Go Go.RowKit Go.WideShapes Go.ChangeShapes

section
variable {H : Type} {enc : TypeId × Value → H} {P : Program}

theorem trodAll_stays (hl : laidOutB P = true) {W W' : World} {sp : Nat → Bool} (hb : Below W.heap.size W W') : ∀ {ts : List TypeId} {vs : List Value} {ds : List (DataW H)} {ps : List MemPlace},
    (ts.all fun t => P.readableRec t && decide (t < P.types.size)) = true → DataW.TrodAll enc P W 0 (fun _ => true) true ts vs ds ps → (∀ x ∈ ps, x.block < W.heap.size) → (∀ x ∈ ps, sp x.block = true) →
    DataW.TrodAll enc P W' 0 sp true ts vs ds ps
  | [], [], [], ps, _, h, _, _ => h
  | t :: ts, v :: vs, d :: ds, ps, hr, h, hlt, hsp => by
    obtain ⟨p, q, h1, h2, rfl⟩ := h
    simp only [List.all_cons, Bool.and_eq_true, decide_eq_true_eq] at hr
    exact ⟨p, q, WideElems.Trod_stays hl hr.1.1 hr.1.2 h1 (fun x hx => hb.same (hlt x (by simp [hx]))) (fun x hx => hsp x (by simp [hx])),
      trodAll_stays hl hb hr.2 h2 (fun x hx => hlt x (by simp [hx])) (fun x hx => hsp x (by simp [hx])), rfl⟩

theorem trodAll_len {W : World} {b : Nat} {sp : Nat → Bool} {hd : Bool} : ∀ {ts : List TypeId} {vs : List Value} {ds : List (DataW H)} {ps : List MemPlace}, DataW.TrodAll enc P W b sp hd ts vs ds ps → ds.length = ts.length
  | [], [], [], _, _ => rfl
  | t :: ts, v :: vs, d :: ds, _, h => by
    obtain ⟨p, q, _, h2, _⟩ := h
    simp [trodAll_len h2]

/-- the law's last step -/
theorem law_post {f : Func} {s : ChangeSpec} {apart fresh handsOn again : Bool} {W W' : World} {args : Array Value} {ds gs : List (DataW H)} {before : List MemPlace} {tb : TypeId}
    (hl : laidOutB P = true) (hvars : s.vars = []) (hres : f.resultTypes = #[tb]) (htb : P.underlying tb = some .bool)
    (hread : (f.params.toList.all fun t => P.readableRec t && decide (t < P.types.size)) = true)
    (hfn : ∀ ds : List (DataW H), ds.length = f.params.size → s.fn H ds = { results := [.lit (.bool true)], args := ds })
    (hW : DataW.Whole enc P f.params.toList s.vars apart W args.toList ds gs before) (hb : Below W.heap.size W W') :
    s.post enc P f apart fresh handsOn again W args (.bool true) W' := by
  have hlt : ∀ p ∈ before, p.block < W.heap.size := fun p hp => hW.lt p hp
  have hold : ∀ p ∈ before, (fun b => decide (b < W.heap.size)) p.block = true := fun p hp => by simpa using hlt p hp
  have hW0 := hW
  obtain ⟨p, q, hA, hV, rfl, hz, hn⟩ := hW0
  rw [hvars] at hV
  obtain ⟨rfl, rfl⟩ := trodVars_none hV
  have hlen : ds.length = f.params.size := by
    have := trodAll_len hA
    simpa using this
  have hspec := hfn ds hlen
  simp only [List.append_nil] at *
  have hargs : ∀ sp : Nat → Bool, (∀ x ∈ p, sp x.block = true) → DataW.TrodAll enc P W' 0 sp true f.params.toList args.toList ds p :=
    fun sp hsp => trodAll_stays hl hb hread hA hlt hsp
  have hr : ∀ (b : Nat) (sp : Nat → Bool) (hd : Bool), DataW.TrodAll enc P W' b sp hd f.resultTypes.toList ((Value.bool true).resultList f.resultTypes.size) [DataW.lit (.bool true)] [] := by
    intro b sp hd
    rw [hres]
    exact trodAll_cons_mk (shut_bool htb _) trodAll_mk0
  refine ⟨ds, [], p, [], p, [], by simpa using hW, ?_, ?_, ?_, ?_, fun _ => ?_⟩
  · simp only [List.append_nil, hspec]; exact hr _ _ _
  · simp only [List.append_nil, hspec]; exact hargs _ hold
  · simp only [List.append_nil, hspec, hvars]; exact rfl
  · exact World.keptBut_mono (fun x hx => ⟨hx, .inr (.inl hx)⟩) (hb.frame (· ∈ p))
  · refine ⟨ok_one hres rfl (okWide_bool_mk htb _), [DataW.lit (.bool true)] ++ ds, [], p, ⟨p, [], ?_, ?_, by simp, ?_, ?_⟩, fun x hx _ => hx⟩
    · have := trodAll_append (hargs (fun _ => true) (fun _ _ => rfl)) (hr 0 (fun _ => true) true)
      simpa using this
    · rw [hvars]; rfl
    · intro b off hp
      rw [hb.frozen (hlt _ hp)]
      exact hz b off hp
    · intro ha; exact hn ha

/-- arguments as the law's function gets them -/
inductive ArgsR (S : Pr) (w : World) : List AV → List Value → Prop
  | nil : ArgsR S w [] []
  | cons {x : AV} {v : Value} {xs : List AV} {vs : List Value} (h : RV S w [] none x v) (hs : ArgsR S w xs vs) : ArgsR S w (x :: xs) (v :: vs)
theorem ArgsR.at {S : Pr} {w : World} {xs : List AV} {vs : List Value} (h : ArgsR S w xs vs) : xs.length = vs.length ∧ ∀ (i : Nat) (x : AV) (v : Value), xs[i]? = some x → vs[i]? = some v → RV S w [] none x v := by
  induction h with
  | nil => exact ⟨rfl, fun i x v h => by simp at h⟩
  | cons h _ ih =>
    refine ⟨by simp [ih.1], fun i x v h1 h2 => ?_⟩
    cases i with
    | zero => simp at h1 h2; subst h1; subst h2; exact h
    | succ i => exact ih.2 i x v (by simpa using h1) (by simpa using h2)

/-- all cells of a heap -/
abbrev AllOf (w : World) : Pr := fun b _ => b < w.heap.size

theorem law_calls {fid : Nat} {f : Func} {s : ChangeSpec} {apart fresh handsOn again : Bool} {W : World} {args : Array Value} {ds gs : List (DataW H)} {before : List MemPlace} {tb : TypeId}
    (hl : laidOutB P = true) (hvars : s.vars = []) (hres : f.resultTypes = #[tb]) (htb : P.underlying tb = some .bool)
    (hread : (f.params.toList.all fun t => P.readableRec t && decide (t < P.types.size)) = true)
    (hfn : ∀ ds : List (DataW H), ds.length = f.params.size → s.fn H ds = { results := [.lit (.bool true)], args := ds })
    (hW : DataW.Whole enc P f.params.toList s.vars apart W args.toList ds gs before)
    (avs : List AV) (ha : ArgsR (AllOf W) W avs args.toList) (hp : PCall P fid avs (.d (.s (.bool true)))) :
    Calls P fid args W fun e W' => ∃ v, e = .returned v ∧ s.post enc P f apart fresh handsOn again W args v W' := by
  obtain ⟨h1, h2⟩ := ha.at
  have := callsIn_wide.1 (hp.2 (AllOf W) W args.toList h1 h2 fun b i h => h)
  refine Calls.mono this ?_
  rintro e W' ⟨v, S', rfl, hb, _, _, hr⟩
  refine ⟨v, rfl, ?_⟩
  have hv : v = .bool true := by
    have : AV.view (.d (.s (.bool true))) = .d (.s (.bool true)) := rfl
    rw [this] at hr
    cases hr with
    | d h => cases h; rfl
  subst hv
  exact law_post hl hvars hres htb hread hfn hW hb

/-- an argument that is a slice -/
theorem arg_slice {W : World} {b0 n : Nat} {r : Reach} {sp : Nat → Bool} {hd : Bool} {t e : TypeId} {v : Value} {d : DataW H} {ps : List MemPlace} {ty : Ty} (hu : P.underlying t = some (.slice e)) (hf : flat P n t = some [ty])
    (hval : Value.okWide P W r b0 t v) (h : DataW.Trod enc P W 0 sp hd t v d ps) : ∃ x, HasTy ty x ∧ RV (AllOf W) W [] none (.d x) v := by
  obtain ⟨fuel, h⟩ := h
  obtain ⟨a, len, cap, rfl⟩ := okWide_slice hu hval
  obtain ⟨row, hr⟩ := read_flat n fuel t _ _ _ hf h
  cases hr with
  | cons h hr h1 hs => exact ⟨_, h, .d hr⟩
theorem arg_int {W : World} {b0 : Nat} {r : Reach} {sp : Nat → Bool} {hd : Bool} {t : TypeId} {k : IntKind} {v : Value} {d : DataW H} {ps : List MemPlace} (hu : P.underlying t = some (.int k))
    (hval : Value.okWide P W r b0 t v) (h : DataW.Trod enc P W 0 sp hd t v d ps) : ∃ x, (Lit.int k x).wf = true ∧ RV (AllOf W) W [] none (.d (.s (.int k x))) v := by
  obtain ⟨x, rfl, _, _, hw⟩ := open_int hu hval h
  exact ⟨x, hw, .d (.s _)⟩
theorem arg_agg {W : World} {b0 n : Nat} {r : Reach} {sp : Nat → Bool} {hd : Bool} {t : TypeId} {v : Value} {d : DataW H} {ps : List MemPlace} {tys : List Ty} (hu : (∃ fs, P.underlying t = some (.struct fs)) ∨ ∃ k e, P.underlying t = some (.array k e)) (hf : flat P n t = some tys)
    (hval : Value.okWide P W r b0 t v) (h : DataW.Trod enc P W 0 sp hd t v d ps) : ∃ row, HasTys tys row ∧ RV (AllOf W) W [] none (.agg (row.map .d)) v := by
  obtain ⟨fuel, h⟩ := h
  have : ∃ cs, v = .agg cs := by
    unfold Value.okWide at hval
    rcases hu with ⟨fs, hu⟩ | ⟨k, e, hu⟩ <;> rw [hu] at hval <;> obtain ⟨cs, h, _⟩ := hval <;> exact ⟨cs, h⟩
  obtain ⟨cs, rfl⟩ := this
  obtain ⟨row, hr⟩ := read_flat n fuel t _ _ _ hf h
  refine ⟨row, hr.tys, .agg ?_ fun i c v h1 h2 => ?_⟩
  · have := hr.len
    simp [Value.cells] at this
    simp; omega
  · simp only [List.getElem?_map, Option.map_eq_some_iff] at h1
    obtain ⟨x, h1, rfl⟩ := h1
    obtain ⟨v', h3, h4, _⟩ := hr.at i x h1
    simp [Value.cells] at h3
    rw [h2] at h3; cases h3
    exact .d h4
end
end Go.Proofs.Ytgdeoaiakdkhcaa.Am
