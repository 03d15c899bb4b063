/- Regions that draw their order: the order of the text serves for all. -/
import Derived.Test.YtgdeoaiakdkhcaaAmN
namespace Go.Proofs.Ytgdeoaiakdkhcaa.Am
set_option linter.unusedVariables false
open Go Go.RowKit

/-- it writes nothing but its temporary -/
def pureKind (o : Oper) : Bool :=
  match o.op with
  | .alloc _ | .box .. | .store .. | .makeSlice .. | .select .. | .defer _ | .go _ => false
  | .call c => match c.callee with
    | .builtin .append | .builtin .copy | .invoke .. => false
    | _ => true
  | _ => true

/-- what a pure operation yields -/
def xp (P : Program) (call : CallT) (ops : Array Oper) (hp : List Blk) (tm : List AV) (o : Oper) : Option AV :=
  match wantedA ops o tm with
  | some false => some (.d (.s undef))
  | some true => match o.op with
    | .call c => match c.callee with
      | .value f => match callArgs tm (evalA tm f) c.args with
        | some (k, args) => if closeds args then (call.p o.dst k args).map AV.view else none
        | none => none
      | _ => xq P hp (evalA tm) o
    | _ => xq P hp (evalA tm) o
  | none => none

def xPre (P : Program) (call : CallT) (ops : Array Oper) (hp : List Blk) : List Oper → List AV → Option (List AV)
  | [], tm => some tm
  | o :: l, tm => match xp P call ops hp tm o with
    | some x => xPre P call ops hp l (putA tm o.dst x)
    | none => none

def edgesOf (o : Oper) : List Nat := (o.after.toList.filter fun e => Region.binds .any e).map (·.on)

/-- whatever those of a list wait for, downwards -/
def ancDown (ops : Array Oper) : Nat → List Nat → List Nat
  | 0, l => l
  | t + 1, l => ancDown ops t (if l.contains t then (match ops[t]? with
    | some o => edgesOf o ++ l
    | none => l) else l)

/-- what must come before an operation -/
def ancOf (ops : Array Oper) (n i : Nat) : List Nat :=
  match ops[i]? with
  | some o => ancDown ops i (edgesOf o)
  | none => []

/-- the first k operations are pure and wait for what they look at; the others come in the order of the text, behind them -/
def drawOk (ops : Array Oper) (k : Nat) : Bool :=
  (List.range ops.size).all (fun i => match ops[i]? with
    | some o => (edgesOf o).all (· < i) &&
        (if i < k then pureKind o && (o.looksAt ops).all (fun t => (List.range k).all fun j => match ops[j]? with
            | some o' => o'.dst != some t || (edgesOf o).contains j
            | none => true) &&
          (List.range i).all (fun j => match ops[j]? with
            | some o' => o.dst == none || o'.dst != o.dst
            | none => true)
        else (List.range i).all fun j => (ancOf ops ops.size i).contains j)
    | none => true)

section
variable {P : Program} {S S' S'' X : Pr} {yv : Option Nat} {w w' w'' : World} {m m' m'' : List MB} {A B : List (AV × Value)} {hp hp' : List Blk} {hv : List (List Value)} {call : CallT} {s s' : RS} {a : Act} {o : Oper} {ops : Array Oper}

theorem drawOk_at {k i : Nat} {o : Oper} (h : drawOk ops k = true) (hi : ops[i]? = some o) :
    (∀ j ∈ edgesOf o, j < i) ∧
    (i < k → pureKind o = true ∧ (∀ t ∈ o.looksAt ops, ∀ (j : Nat) (o' : Oper), j < k → ops[j]? = some o' → o'.dst = some t → j ∈ edgesOf o) ∧
      (∀ (j : Nat) (o' : Oper), j < i → ops[j]? = some o' → o.dst ≠ none → o'.dst ≠ o.dst)) ∧
    (k ≤ i → ∀ j, j < i → j ∈ ancOf ops ops.size i) := by
  have hil : i < ops.size := (Array.getElem?_eq_some_iff.1 hi).1
  have h1 := List.all_eq_true.1 h i (List.mem_range.2 hil)
  simp only [hi, Bool.and_eq_true, List.all_eq_true, decide_eq_true_eq] at h1
  obtain ⟨h2, h3⟩ := h1
  refine ⟨h2, fun hk => ?_, fun hk j hj => ?_⟩
  · rw [if_pos hk] at h3
    simp only [Bool.and_eq_true, List.all_eq_true, List.mem_range] at h3
    obtain ⟨⟨h4, h5⟩, h6⟩ := h3
    refine ⟨h4, fun t ht j o' hj ho' hd => ?_, fun j o' hj ho' hd => ?_⟩
    · have := h5 t ht j hj
      simp only [ho', hd, bne_self_eq_false, Bool.false_or, List.contains_iff_mem] at this
      exact this
    · have := h6 j hj
      simp only [ho', Bool.or_eq_true, beq_iff_eq, bne_iff_ne] at this
      exact this.resolve_left hd
  · rw [if_neg (by omega)] at h3
    simp only [List.all_eq_true, List.mem_range, List.contains_iff_mem] at h3
    exact h3 j hj

theorem ancDown_listed {listed : Array Bool} (hdown : ∀ (j : Nat) (o' : Oper), ops[j]? = some o' → listed.getD j false = true → ∀ e ∈ edgesOf o', listed.getD e false = true) :
    ∀ (t : Nat) (l : List Nat), (∀ j ∈ l, listed.getD j false = true) → ∀ j ∈ ancDown ops t l, listed.getD j false = true
  | 0, l, h, j, hj => h j hj
  | t + 1, l, h, j, hj => by
    simp only [ancDown] at hj
    refine ancDown_listed hdown t _ (fun j' hj' => ?_) j hj
    split at hj'
    · rename_i hc
      have ht := h t (List.contains_iff_mem.1 hc)
      split at hj'
      · rename_i o ho
        rcases List.mem_append.1 hj' with h1 | h1
        · exact hdown t o ho ht j' h1
        · exact h j' h1
      · exact h j' hj'
    · exact h j' hj'

theorem anc_listed {listed : Array Bool} (hdown : ∀ (j : Nat) (o' : Oper), ops[j]? = some o' → listed.getD j false = true → ∀ e ∈ edgesOf o', listed.getD e false = true) (n i : Nat) (o : Oper) (hi : ops[i]? = some o)
    (he : ∀ e ∈ edgesOf o, listed.getD e false = true) : ∀ j ∈ ancOf ops n i, listed.getD j false = true := by
  intro j hj
  simp only [ancOf, hi] at hj
  exact ancDown_listed hdown i _ he j hj

theorem ready_edges {listed : Array Bool} {i : Nat} (h : i ∈ Region.ready .any ops listed) : ∃ o, ops[i]? = some o ∧ listed.getD i true = false ∧ ∀ e ∈ edgesOf o, listed.getD e false = true := by
  obtain ⟨h0, o, ho, hall⟩ := mem_ready.1 h
  refine ⟨o, ho, h0, fun e he => ?_⟩
  unfold edgesOf at he
  simp only [List.mem_map, List.mem_filter, Array.mem_toList_iff] at he
  obtain ⟨ed, ⟨h1, h2⟩, rfl⟩ := he
  exact hall ed h1 h2

theorem ready_of_edges {listed : Array Bool} {i : Nat} {o : Oper} (ho : ops[i]? = some o) (h0 : listed.getD i true = false) (hall : ∀ e ∈ edgesOf o, listed.getD e false = true) : i ∈ Region.ready .any ops listed := by
  refine mem_ready.2 ⟨h0, o, ho, fun e he hb => hall e.on ?_⟩
  unfold edgesOf
  simp only [List.mem_map, List.mem_filter, Array.mem_toList_iff]
  exact ⟨e, ⟨he, hb⟩, rfl⟩

/-! ### what an operation looks at -/
theorem evalA_congr {tm tm' : List AV} (h : ∀ t ∈ o.looksAt ops, tm.getD t .bad = tm'.getD t .bad) : ∀ y ∈ o.op.operands, evalA tm y = evalA tm' y := by
  intro y hy
  cases y with
  | tmp t => exact h t (List.mem_append_left _ (List.mem_filterMap.2 ⟨.tmp t, by simpa using hy, rfl⟩))
  | _ => rfl

theorem xVal_congr {ρ ρ' : Operand → AV} (hs : ∀ cs b, o.op ≠ .select cs b) (h : ∀ y ∈ o.op.operands, ρ y = ρ' y) : xVal P ρ o = xVal P ρ' o := by
  unfold xVal
  have h1 : o.op.operands.all (fun x => (ρ x).toVal?.isSome) = o.op.operands.all (fun x => (ρ' x).toVal?.isSome) := by
    rw [Bool.eq_iff_iff, Array.all_eq_true_iff_forall_mem, Array.all_eq_true_iff_forall_mem]
    constructor
    · intro hh x hx; rw [← h x hx]; exact hh x hx
    · intro hh x hx; rw [h x hx]; exact hh x hx
  have h2 := execOp_congr (ρ := fun x => ((ρ x).toVal?).getD undef) (ρ' := fun x => ((ρ' x).toVal?).getD undef) o hs (fun y hy => by rw [h y hy])
  rw [h1, h2]

theorem xq_congr {ρ ρ' : Operand → AV} (h : ∀ y ∈ o.op.operands, ρ y = ρ' y) : xq P hp ρ o = xq P hp ρ' o := by
  have hv : (∀ cs b, o.op ≠ .select cs b) → xVal P ρ o = xVal P ρ' o := fun hs => xVal_congr hs h
  have pairs : ∀ ps : Array (Nat × Operand), (∀ x ∈ ps.map (·.2), ρ x = ρ' x) → (ps.toList.map fun p => (p.1, ρ p.2)) = (ps.toList.map fun p => (p.1, ρ' p.2)) := fun ps hp =>
    List.map_congr_left fun p hm => by rw [hp p.2 (Array.mem_map.2 ⟨p, by simpa using hm, rfl⟩)]
  have views : ∀ xs : Array Operand, (∀ x ∈ xs, ρ x = ρ' x) → (xs.toList.map fun x => (ρ x).view) = (xs.toList.map fun x => (ρ' x).view) := fun xs hp =>
    List.map_congr_left fun p hm => by rw [hp p (by simpa using hm)]
  unfold xq
  cases ho : o.op <;> simp only [ho, Op.operands] at h hv ⊢
  case move x => rw [h x (by simp)]
  case assign x => rw [h x (by simp)]
  case pick c a b => rw [h c (by simp), h a (by simp), h b (by simp)]
  case extract x i => rw [h x (by simp)]
  case load t a => rw [h a (by simp)]
  case nilCheck x => rw [h x (by simp)]
  case binOp op t x y ty => rw [h x (by simp), h y (by simp), hv (by simp)]
  case makeFunc f first caps => rw [views first fun x hx => h x (by simp [hx]), views caps fun x hx => h x (by simp [hx])]
  case slice t x lo hi mx =>
    have e1 : lo.map ρ = lo.map ρ' := by cases lo <;> simp; exact h _ (by simp)
    have e2 : hi.map ρ = hi.map ρ' := by cases hi <;> simp; exact h _ (by simp)
    have e3 : mx.map ρ = mx.map ρ' := by cases mx <;> simp; exact h _ (by simp)
    rw [h x (by simp), e1, e2, e3, hv (by simp)]
  case fieldAddr t x f => rw [h x (by simp)]
  case field t x f => rw [h x (by simp)]
  case indexAddr t x ix => rw [h x (by simp), h ix (by simp)]
  case index t x ix => rw [h x (by simp), h ix (by simp), hv (by simp)]
  case build t parts => rw [pairs parts fun x hx => h x (by simpa using hx)]
  case buildSlice t n parts => rw [pairs parts fun x hx => h x (by simpa using hx)]
  case call c =>
    split
    · split
      · rename_i x hx; rw [h x (by have := Array.mem_of_getElem? hx; simp [Call.operands, this]), hv (by simp)]
      · rfl
    · split
      · rename_i x y hx hy
        rw [h x (by have := Array.mem_of_getElem? hx; simp [Call.operands, this]), h y (by have := Array.mem_of_getElem? hy; simp [Call.operands, this])]
      · rfl
    · exact hv (by simp)
    · rfl
  case unOp => exact hv (by simp)
  case convert => exact hv (by simp)
  case makeInterface => exact hv (by simp)

theorem wantedA_congr {tm tm' : List AV} (h : ∀ t ∈ o.looksAt ops, tm.getD t .bad = tm'.getD t .bad) : wantedA ops o tm = wantedA ops o tm' := by
  unfold wantedA
  cases hg : o.guard with
  | none => rfl
  | some gw =>
    obtain ⟨j, want⟩ := gw
    simp only
    cases ht : (ops[j]?).bind (·.dst) with
    | none => rfl
    | some t =>
      have : t ∈ o.looksAt ops := by simp [Oper.looksAt, hg, ht]
      simp only [h t this]

theorem xp_congr {tm tm' : List AV} (h : ∀ t ∈ o.looksAt ops, tm.getD t .bad = tm'.getD t .bad) : xp P call ops hp tm o = xp P call ops hp tm' o := by
  have he := evalA_congr (ops := ops) h
  unfold xp
  rw [wantedA_congr h, xq_congr he]
  cases hw : wantedA ops o tm' with
  | none => rfl
  | some b =>
    cases b with
    | false => rfl
    | true =>
      simp only
      cases ho : o.op <;> try rfl
      rename_i c
      simp only
      cases hc : c.callee <;> try rfl
      rename_i f
      have hf : evalA tm f = evalA tm' f := he f (by simp [ho, Op.operands, Call.operands, hc])
      have hargs : c.args.toList.map (evalA tm) = c.args.toList.map (evalA tm') := List.map_congr_left fun x hx => he x (by simp [ho, Op.operands, Call.operands, hc]; exact .inr (by simpa using hx))
      simp only [hf]
      unfold callArgs
      cases evalA tm' f <;> try rfl
      rename_i fn first caps
      cases fn <;> simp only [hargs]

theorem putA_get {tm : List AV} {d : Option Nat} {x : AV} {t : Nat} (h : d ≠ some t) : (putA tm d x)[t]? = tm[t]? := by
  cases d with
  | none => rfl
  | some d =>
    have : d ≠ t := fun e => h (by rw [e])
    simp [putA, List.getElem?_set_ne this]

theorem getD_of {tm tm' : List AV} {t : Nat} (h : tm[t]? = tm'[t]?) : tm.getD t .bad = tm'.getD t .bad := by simp [List.getD, h]

/-- each pure operation yields its own result out of the results of all -/
theorem xPre_spec {k : Nat} (hd : drawOk ops k = true) (hk : k ≤ ops.size) : ∀ (n : Nat) {i : Nat} {tm tmK : List AV}, n = k - i → i ≤ k → xPre P call ops hp ((ops.toList.take k).drop i) tm = some tmK →
    (∀ (j : Nat) (o : Oper), i ≤ j → j < k → ops[j]? = some o → ∃ x, xp P call ops hp tmK o = some x ∧ ∀ d, o.dst = some d → d < tm.length → tmK[d]? = some x) ∧
    (∀ t, (∀ (j : Nat) (o : Oper), i ≤ j → j < k → ops[j]? = some o → o.dst ≠ some t) → tmK[t]? = tm[t]?) ∧ tmK.length = tm.length
  | 0, i, tm, tmK, hn, hi, hx => by
    have hdrop : (ops.toList.take k).drop i = [] := List.drop_eq_nil_of_le (by simp; omega)
    rw [hdrop] at hx
    simp only [xPre, Option.some.injEq] at hx
    subst hx
    exact ⟨fun j o h1 h2 => by omega, fun t _ => rfl, rfl⟩
  | n + 1, i, tm, tmK, hn, hi, hx => by
    have hil : i < ops.size := by omega
    have hoi : ops[i]? = some ops[i] := by simp [hil]
    have hdrop : (ops.toList.take k).drop i = ops[i] :: (ops.toList.take k).drop (i + 1) := by
      rw [List.drop_eq_getElem_cons (by simp; omega)]; simp
    rw [hdrop] at hx
    simp only [xPre] at hx
    split at hx <;> try (cases hx; done)
    rename_i x hxp
    obtain ⟨h1, h2, h3⟩ := xPre_spec hd hk n (i := i + 1) (by omega) (by omega) hx
    obtain ⟨hedge, hpre, _⟩ := drawOk_at hd hoi
    obtain ⟨hpk, hlook, hdist⟩ := hpre (by omega)
    have hlen : (putA tm ops[i].dst x).length = tm.length := putA_length _ _ _
    have hsame : ∀ t ∈ ops[i].looksAt ops, tmK[t]? = tm[t]? := by
      intro t ht
      have hno : ∀ (j : Nat) (o : Oper), i ≤ j → j < k → ops[j]? = some o → o.dst ≠ some t := by
        intro j o hij hjk ho hdst
        have := hedge j (hlook t ht j o hjk ho hdst)
        omega
      rw [h2 t (fun j o hij hjk ho => hno j o (by omega) hjk ho), putA_get (hno i ops[i] (Nat.le_refl _) (by omega) hoi)]
    refine ⟨fun j o hij hjk ho => ?_, fun t ht => ?_, h3.trans hlen⟩
    · rcases Nat.eq_or_lt_of_le hij with rfl | hlt
      · rw [hoi] at ho; cases ho
        refine ⟨x, by rw [xp_congr (tm' := tm) (fun t ht => getD_of (hsame t ht))]; exact hxp, fun d hdst hdl => ?_⟩
        rw [h2 d (fun j o hij hjk ho hdd => ?_)]
        · rw [hdst]; simp [putA, hdl]
        · have := ((drawOk_at hd ho).2.1 hjk).2.2 i ops[i] (by omega) hoi (by rw [hdd]; simp)
          exact this (by rw [hdst, hdd])
      · obtain ⟨x', h4, h5⟩ := h1 j o (by omega) hjk ho
        exact ⟨x', h4, fun d hdst hdl => h5 d hdst (by rw [hlen]; exact hdl)⟩
    · rw [h2 t (fun j o hij hjk ho => ht j o (by omega) hjk ho), putA_get (ht i ops[i] (Nat.le_refl _) (by omega) hoi)]

end
end Go.Proofs.Ytgdeoaiakdkhcaa.Am
