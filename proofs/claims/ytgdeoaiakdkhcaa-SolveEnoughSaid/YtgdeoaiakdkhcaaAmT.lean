/- Regions that draw their order, in which stores may come ahead of pure operations. -/
import Derived.Test.YtgdeoaiakdkhcaaAmS
namespace Go.Proofs.Ytgdeoaiakdkhcaa.Am
set_option linter.unusedVariables false
open Go Go.RowKit

/-- the first k operations are pure; the next n are plain stores, one behind the other; the others come in the order of the text, behind all -/
def drawLateOk (ops : Array Oper) (k n : Nat) : Bool :=
  (List.range ops.size).all (fun i => match ops[i]? with
    | some o => (edgesOf o).all (· < i) &&
        (if i < k + n then (o.looksAt ops).all (fun t => (List.range k).all fun j => match ops[j]? with
            | some o' => o'.dst != some t || (edgesOf o).contains j
            | none => true) &&
          (if i < k then pureKind o && (List.range i).all (fun j => match ops[j]? with
            | some o' => o.dst == none || o'.dst != o.dst
            | none => true)
           else (List.range i).all fun j => j < k || (ancOf ops ops.size i).contains j)
        else (List.range i).all fun j => (ancOf ops ops.size i).contains j)
    | none => true)

/-- a plain store -/
def xLate (P : Program) (hp : List Blk) (tm : List AV) (o : Oper) : Option (List Blk) :=
  match o.op, o.guard, o.dst with
  | .store t a x, none, none => if (evalA tm x).isOwn then none else match xCells (evalA tm x) with
    | some xs => xStore P hp t (evalA tm a) xs
    | none => none
  | _, _, _ => none

/-- the blocks ahead of and behind each of them -/
def xLates (P : Program) (tm : List AV) : List Oper → List Blk → Option (List (List Blk))
  | [], hp => some [hp]
  | o :: l, hp => match xLate P hp tm o with
    | some hp' => (xLates P tm l hp').map (hp :: ·)
    | none => none

section
variable {P : Program} {S S' S'' X X' V V' Z : Pr} {L : Nat → Prop} {r : Option Nat} {lo : Nat} {yv : Option Nat} {w w' w'' : World} {m m' m'' : List MB} {A B : List (AV × Value)} {hp hp' : List Blk} {hv hv' : List (List Value)} {call : CallT} {a a' : Act} {o : Oper} {ops : Array Oper} {Ev : Env P}
  {s : St Ev.β} {Q Q' : Exit → St Ev.β → Prop} {c c' : Code}

theorem late_at {k n i : Nat} {o : Oper} (h : drawLateOk ops k n = true) (hi : ops[i]? = some o) :
    (∀ j ∈ edgesOf o, j < i) ∧
    (i < k + n → ∀ t ∈ o.looksAt ops, ∀ (j : Nat) (o' : Oper), j < k → ops[j]? = some o' → o'.dst = some t → j ∈ edgesOf o) ∧
    (i < k → pureKind o = true ∧ ∀ (j : Nat) (o' : Oper), j < i → ops[j]? = some o' → o.dst ≠ none → o'.dst ≠ o.dst) ∧
    (k ≤ i → ∀ j, k ≤ j → j < i → j ∈ ancOf ops ops.size i) ∧
    (k + n ≤ i → ∀ j, j < i → j ∈ ancOf ops ops.size i) := by
  have hil : i < ops.size := (Array.getElem?_eq_some_iff.1 hi).1
  have h1 := List.all_eq_true.1 h i (List.mem_range.2 hil)
  simp only [hi, Bool.and_eq_true, List.all_eq_true, decide_eq_true_eq] at h1
  obtain ⟨h2, h3⟩ := h1
  refine ⟨h2, fun hk => ?_, fun hk => ?_, fun hk j hkj hj => ?_, fun hk j hj => ?_⟩
  · rw [if_pos hk] at h3
    simp only [Bool.and_eq_true, List.all_eq_true, List.mem_range] at h3
    intro t ht j o' hj ho' hd
    have := h3.1 t ht j hj
    simp only [ho', hd, bne_self_eq_false, Bool.false_or, List.contains_iff_mem] at this
    exact this
  · rw [if_pos (by omega), if_pos hk] at h3
    simp only [Bool.and_eq_true, List.all_eq_true, List.mem_range] at h3
    refine ⟨h3.2.1, fun j o' hj ho' hd => ?_⟩
    have := h3.2.2 j hj
    simp only [ho', Bool.or_eq_true, beq_iff_eq, bne_iff_ne] at this
    exact this.resolve_left hd
  · by_cases hn : i < k + n
    · rw [if_pos hn, if_neg (by omega)] at h3
      simp only [Bool.and_eq_true, List.all_eq_true, List.mem_range, Bool.or_eq_true, decide_eq_true_eq, List.contains_iff_mem] at h3
      exact (h3.2 j hj).resolve_left (by omega)
    · rw [if_neg hn] at h3
      simp only [List.all_eq_true, List.mem_range, List.contains_iff_mem] at h3
      exact h3 j hj
  · rw [if_neg (by omega)] at h3
    simp only [List.all_eq_true, List.mem_range, List.contains_iff_mem] at h3
    exact h3 j hj

theorem xLate_step {tm : List AV} {pv : List (Nat × Loc)} (h : xLate P hp tm o = some hp') : xStep P call ops ⟨tm, hp, pv⟩ o = some ⟨tm, hp', []⟩ := by
  unfold xLate at h
  split at h <;> try (cases h; done)
  rename_i t a x ho hg hd
  split at h <;> try (cases h; done)
  rename_i hown
  split at h <;> try (cases h; done)
  rename_i xs hxs
  have hw : wantedA ops o tm = some true := by simp [wantedA, hg]
  have hxa : xa P ⟨tm, hp, pv⟩ o = none := by simp [xa, ho]
  simp only [xStep, hw, hxa]
  simp [xh, ho, storeSrc, hown, hxs, h, hd, putA]

theorem xLate_congr {tm tm' : List AV} (h : ∀ t ∈ o.looksAt ops, tm.getD t .bad = tm'.getD t .bad) : xLate P hp tm o = xLate P hp tm' o := by
  have he := evalA_congr (ops := ops) h
  unfold xLate
  split
  · rename_i t a x ho hg hd
    rw [he a (by simp [ho, Op.operands]), he x (by simp [ho, Op.operands])]
  · rfl

theorem xLates_get {tm : List AV} : ∀ {l : List Oper} {hp : List Blk} {hps : List (List Blk)}, xLates P tm l hp = some hps →
    hps.length = l.length + 1 ∧ hps[0]? = some hp ∧ ∀ (i : Nat) (o : Oper), l[i]? = some o → ∃ h h', hps[i]? = some h ∧ hps[i + 1]? = some h' ∧ xLate P h tm o = some h'
  | [], hp, hps, h => by simp only [xLates, Option.some.injEq] at h; subst h; simp
  | o :: l, hp, hps, h => by
    simp only [xLates] at h
    split at h <;> try (cases h; done)
    rename_i hp' hl
    simp only [Option.map_eq_some_iff] at h
    obtain ⟨hps', h1, rfl⟩ := h
    obtain ⟨h2, h3, h4⟩ := xLates_get h1
    refine ⟨by simp [h2], rfl, fun i o' ho' => ?_⟩
    cases i with
    | zero => simp at ho'; subst ho'; exact ⟨hp, hp', rfl, by simpa using h3, hl⟩
    | succ i => simp at ho'; simpa using h4 i o' ho'

/-- a state whose temporaries are partly laid -/
structure LateInv (ops : Array Oper) (k n : Nat) (hps : List (List Blk)) (tm0 tmK tm : List AV) (hp : List Blk) (listed : Array Bool) (i : Nat) : Prop where
  sz : listed.size = ops.size
  hi : i ≤ n
  far : ∀ j, k + n ≤ j → listed.getD j false = false
  mid : ∀ j, k ≤ j → j < k + n → listed.getD j false = decide (j < k + i)
  down : ∀ (j : Nat) (o' : Oper), ops[j]? = some o' → listed.getD j false = true → ∀ e ∈ edgesOf o', listed.getD e false = true
  len : tm.length = tm0.length
  got : ∀ (j : Nat) (o : Oper) (d : Nat), j < k → ops[j]? = some o → o.dst = some d → listed.getD j false = true → tm[d]? = tmK[d]?
  old : ∀ t, (∀ (j : Nat) (o : Oper), j < k → ops[j]? = some o → listed.getD j false = true → o.dst ≠ some t) → tm[t]? = tm0[t]?
  heap : hps[i]? = some hp

theorem late_xPre_spec {k n : Nat} (hd : drawLateOk ops k n = true) (hk : k ≤ ops.size) : ∀ (c : Nat) {i : Nat} {tm tmK : List AV}, c = k - i → i ≤ k → xPre P call ops hp ((ops.toList.take k).drop i) tm = some tmK →
    (∀ (j : Nat) (o : Oper), i ≤ j → j < k → ops[j]? = some o → ∃ x, xp P call ops hp tmK o = some x ∧ ∀ d, o.dst = some d → d < tm.length → tmK[d]? = some x) ∧
    (∀ t, (∀ (j : Nat) (o : Oper), i ≤ j → j < k → ops[j]? = some o → o.dst ≠ some t) → tmK[t]? = tm[t]?) ∧ tmK.length = tm.length
  | 0, i, tm, tmK, hn, hi, hx => by
    have hdrop : (ops.toList.take k).drop i = [] := List.drop_eq_nil_of_le (by simp; omega)
    rw [hdrop] at hx
    simp only [xPre, Option.some.injEq] at hx
    subst hx
    exact ⟨fun j o h1 h2 => by omega, fun t _ => rfl, rfl⟩
  | c + 1, i, tm, tmK, hn, hi, hx => by
    have hil : i < ops.size := by omega
    have hoi : ops[i]? = some ops[i] := by simp [hil]
    have hdrop : (ops.toList.take k).drop i = ops[i] :: (ops.toList.take k).drop (i + 1) := by
      rw [List.drop_eq_getElem_cons (by simp; omega)]; simp
    rw [hdrop] at hx
    simp only [xPre] at hx
    split at hx <;> try (cases hx; done)
    rename_i x hxp
    obtain ⟨h1, h2, h3⟩ := late_xPre_spec hd hk c (i := i + 1) (by omega) (by omega) hx
    obtain ⟨hedge, hlook, hpure, _, _⟩ := late_at hd hoi
    have hlook := hlook (by omega)
    have hlen : (putA tm ops[i].dst x).length = tm.length := putA_length _ _ _
    have hsame : ∀ t ∈ ops[i].looksAt ops, tmK[t]? = tm[t]? := by
      intro t ht
      have hno : ∀ (j : Nat) (o : Oper), i ≤ j → j < k → ops[j]? = some o → o.dst ≠ some t := by
        intro j o hij hjk ho hdst
        have := hedge j (hlook t ht j o hjk ho hdst)
        omega
      rw [h2 t (fun j o hij hjk ho => hno j o (by omega) hjk ho), putA_get (hno i ops[i] (Nat.le_refl _) (by omega) hoi)]
    refine ⟨fun j o hij hjk ho => ?_, fun t ht => ?_, h3.trans hlen⟩
    · rcases Nat.eq_or_lt_of_le hij with rfl | hlt
      · rw [hoi] at ho; cases ho
        refine ⟨x, by rw [xp_congr (tm' := tm) (fun t ht => getD_of (hsame t ht))]; exact hxp, fun d hdst hdl => ?_⟩
        rw [h2 d (fun j o hij hjk ho hdd => ?_)]
        · rw [hdst]; simp [putA, hdl]
        · have := ((late_at hd ho).2.2.1 hjk).2 i ops[i] (by omega) hoi (by rw [hdd]; simp)
          exact this (by rw [hdst, hdd])
      · obtain ⟨x', h4, h5⟩ := h1 j o (by omega) hjk ho
        exact ⟨x', h4, fun d hdst hdl => h5 d hdst (by rw [hlen]; exact hdl)⟩
    · rw [h2 t (fun j o hij hjk ho => ht j o (by omega) hjk ho), putA_get (ht i ops[i] (Nat.le_refl _) (by omega) hoi)]

theorem late_sound {QQ : Exit → Act → World → Prop} {k n : Nat} (hcall : CallOk P call) (hd : drawLateOk ops k n = true) (hk : k + n ≤ ops.size) {tm0 tmK : List AV} {hp0 : List Blk} {hps : List (List Blk)}
    (hls : xLates P tmK ((ops.toList.drop k).take n) hp0 = some hps) (hx0 : xPre P call ops hp0 (ops.toList.take k) tm0 = some tmK) (hfr : ∀ h ∈ hps, ∀ o ∈ ops.toList.take k, xp P call ops h tmK o = xp P call ops hp0 tmK o) {hpn : List Blk} (hlast : hps[n]? = some hpn) :
    ∀ (u : Nat) {S : Pr} {w : World} {m : List MB} {hv : List (List Value)} {a : Act} {listed : Array Bool} {tm : List AV} {hp : List Blk} {i : Nat}, u = (unl ops.size listed).length → LateInv ops k n hps tm0 tmK tm hp listed i →
    RelS S X yv w m B hv ⟨tm, hp, []⟩ a →
    Nx S X yv w m B ⟨tmK, hpn, []⟩ a (fun a w => ∀ listed : Array Bool, listed.size = ops.size → (∀ j, j < ops.size → listed.getD j false = decide (j < k + n)) → wpAnyIn (Fn r) 0 P .any ops QQ (ops.size - (k + n)) listed a w) →
    wpAnyIn (Fn r) 0 P .any ops QQ u listed a w := by
  obtain ⟨sl1, sl2, sl3⟩ := xLates_get hls
  have hll : ((ops.toList.drop k).take n).length = n := by simp; omega
  rw [hll] at sl1
  have spec0 := late_xPre_spec (call := call) (P := P) (hp := hp0) hd (by omega) k (i := 0) (tm := tm0) (tmK := tmK) rfl (Nat.zero_le _) (by simpa using hx0)
  have spec : ∀ h ∈ hps, (∀ (j : Nat) (o : Oper), 0 ≤ j → j < k → ops[j]? = some o → ∃ x, xp P call ops h tmK o = some x ∧ ∀ d, o.dst = some d → d < tm0.length → tmK[d]? = some x) ∧
      (∀ t, (∀ (j : Nat) (o : Oper), 0 ≤ j → j < k → ops[j]? = some o → o.dst ≠ some t) → tmK[t]? = tm0[t]?) ∧ tmK.length = tm0.length := by
    intro h hm
    refine ⟨fun j o h0 hj ho => ?_, spec0.2⟩
    obtain ⟨x, e1, e2⟩ := spec0.1 j o h0 hj ho
    refine ⟨x, ?_, e2⟩
    rw [hfr h hm o]
    · exact e1
    · refine List.mem_of_getElem? (i := j) ?_
      rw [List.getElem?_take, if_pos hj]; simpa using ho
  have hm0 : hp0 ∈ hps := List.mem_of_getElem? sl2
  obtain ⟨_, sp2, sp3⟩ := spec hp0 hm0
  intro u
  induction u with
  | zero =>
    intro S w m hv a listed tm hp i hn hI hr hK
    have hall : ∀ j, j < ops.size → listed.getD j false = true := by
      intro j hj
      cases hh : listed.getD j false with
      | true => rfl
      | false =>
        have : j ∈ unl ops.size listed := by simp only [unl, List.mem_filter, List.mem_range, hh]; exact ⟨hj, rfl⟩
        rw [List.length_eq_zero_iff.1 hn.symm] at this; cases this
    have hkk : k + n = ops.size := by
      rcases Nat.lt_or_ge (k + n) ops.size with h' | h'
      · have := hall _ h'; rw [hI.far _ (Nat.le_refl _)] at this; cases this
      · omega
    have hin : i = n := by
      rcases Nat.lt_or_ge i n with h' | h'
      · have := hI.mid (k + i) (by omega) (by omega)
        rw [hall _ (by omega)] at this; simp at this
      · have := hI.hi; omega
    subst hin
    have hhp : hp = hpn := by have := hI.heap; rw [hlast] at this; cases this; rfl
    subst hhp
    have htm : tm = tmK := by
      apply List.ext_getElem?
      intro t
      by_cases hc : ∃ (j : Nat) (o : Oper), j < k ∧ ops[j]? = some o ∧ o.dst = some t
      · obtain ⟨j, o, g1, g2, g3⟩ := hc
        exact hI.got j o t g1 g2 g3 (hall j (by omega))
      · rw [hI.old t (fun j o g1 g2 _ g3 => hc ⟨j, o, g1, g2, g3⟩), sp2 t (fun j o _ g1 g2 g3 => hc ⟨j, o, g1, g2, g3⟩)]
    subst htm
    have := hK S w m hv a (Gs.refl _ _ _ _ _) hr rfl rfl listed hI.sz (fun j hj => by rw [hall j hj]; simp; omega)
    rw [hkk, Nat.sub_self] at this
    exact this
  | succ u ih =>
    intro S w m hv a listed tm hp i hn hI hr hK
    by_cases hdone : ∀ j, j < k + n → listed.getD j false = true
    · have hin : i = n := by
        rcases Nat.lt_or_ge i n with h' | h'
        · have := hI.mid (k + i) (by omega) (by omega)
          rw [hdone _ (by omega)] at this; simp at this
        · have := hI.hi; omega
      subst hin
      have hhp : hp = hpn := by have := hI.heap; rw [hlast] at this; cases this; rfl
      subst hhp
      have htm : tm = tmK := by
        apply List.ext_getElem?
        intro t
        by_cases hc : ∃ (j : Nat) (o : Oper), j < k ∧ ops[j]? = some o ∧ o.dst = some t
        · obtain ⟨j, o, g1, g2, g3⟩ := hc
          exact hI.got j o t g1 g2 g3 (hdone j (by omega))
        · rw [hI.old t (fun j o g1 g2 _ g3 => hc ⟨j, o, g1, g2, g3⟩), sp2 t (fun j o _ g1 g2 g3 => hc ⟨j, o, g1, g2, g3⟩)]
      subst htm
      have hlist : ∀ j, j < ops.size → listed.getD j false = decide (j < k + i) := by
        intro j hj
        by_cases hjk : j < k + i
        · rw [hdone j hjk]; simp [hjk]
        · rw [hI.far j (by omega)]; simp [hjk]
      have hcount : (unl ops.size listed).length = ops.size - (k + i) := by
        have e : unl ops.size listed = (List.range ops.size).filter fun j => !decide (j < k + i) := by
          unfold unl
          refine List.filter_congr fun j hj => ?_
          rw [hlist j (List.mem_range.1 hj)]
        rw [e]
        have e2 : List.range ops.size = List.range (k + i) ++ (List.range (ops.size - (k + i))).map (k + i + ·) := by
          rw [← List.range_add]; congr 1; omega
        rw [e2, List.filter_append]
        have e3 : (List.range (k + i)).filter (fun j => !decide (j < k + i)) = [] := by
          rw [List.filter_eq_nil_iff]; intro j hj; have := List.mem_range.1 hj; simp [this]
        rw [e3, List.filter_eq_self.2]
        · simp
        · intro j hj
          obtain ⟨l, _, rfl⟩ := List.mem_map.1 hj
          simp
      rw [hn, hcount]
      exact hK S w m hv a (Gs.refl _ _ _ _ _) hr rfl rfl listed hI.sz hlist
    · have hex : ∃ j, j < k + n ∧ listed.getD j false = false := by
        apply Classical.byContradiction
        intro hno
        exact hdone fun j hj => by
          cases hh : listed.getD j false with
          | true => rfl
          | false => exact absurd ⟨j, hj, hh⟩ hno
      have hmin : ∃ j, j < k + n ∧ listed.getD j false = false ∧ ∀ i, i < j → listed.getD i false = true := by
        obtain ⟨j, hj⟩ := hex
        induction j using Nat.strongRecOn with
        | ind j ihj =>
          by_cases hall : ∀ i, i < j → listed.getD i false = true
          · exact ⟨j, hj.1, hj.2, hall⟩
          · have : ∃ i, i < j ∧ listed.getD i false = false := by
              apply Classical.byContradiction
              intro hno
              exact hall fun i hi => by
                cases hh : listed.getD i false with
                | true => rfl
                | false => exact absurd ⟨i, hi, hh⟩ hno
            obtain ⟨i, hi, hi0⟩ := this
            exact ihj i hi ⟨by omega, hi0⟩
      obtain ⟨j0, hj0k, hj00, hj0all⟩ := hmin
      have hgt : ∀ j, j < ops.size → listed.getD j true = listed.getD j false := by
        intro j hj; simp [hI.sz, hj]
      have hmem : j0 ∈ Region.ready .any ops listed := by
        have hj0 : j0 < ops.size := by omega
        refine ready_of_edges (o := ops[j0]) (by simp [hj0]) (by rw [hgt j0 hj0]; exact hj00) fun e he => ?_
        exact hj0all e ((late_at hd (by simp [hj0])).1 e he)
      refine ⟨fun h0 => (by rw [h0] at hmem; cases hmem), fun j hj => ?_⟩
      obtain ⟨oj, hoj, hj0, hje⟩ := ready_edges hj
      have hjl : j < ops.size := (Array.getElem?_eq_some_iff.1 hoj).1
      rw [hgt j hjl] at hj0
      have hjk : j < k + n := by
        rcases Nat.lt_or_ge j (k + n) with h' | h'
        · exact h'
        · have := anc_listed hI.down ops.size j oj hoj hje j0 ((late_at hd hoj).2.2.2.2 h' j0 (by omega))
          rw [hj00] at this; cases this
      obtain ⟨hedge, hlook, hpure, hmidanc, _⟩ := late_at hd hoj
      have hlook := hlook hjk
      have hsame : ∀ t ∈ oj.looksAt ops, tm[t]? = tmK[t]? := by
        intro t ht
        by_cases hc : ∃ (i : Nat) (o : Oper), i < k ∧ ops[i]? = some o ∧ o.dst = some t
        · obtain ⟨i, o, g1, g2, g3⟩ := hc
          exact hI.got i o t g1 g2 g3 (hje i (hlook t ht i o g1 g2 g3))
        · rw [hI.old t (fun j o g1 g2 _ g3 => hc ⟨j, o, g1, g2, g3⟩), sp2 t (fun j o _ g1 g2 g3 => hc ⟨j, o, g1, g2, g3⟩)]
      have hget : ∀ i, (listed.setIfInBounds j true).getD i false = (if i = j then true else listed.getD i false) := by
        intro i
        simp only [Array.getD_eq_getD_getElem?, Array.getElem?_setIfInBounds]
        by_cases hij : j = i
        · subst hij; simp [hI.sz, hjl]
        · simp [hij, Ne.symm hij]
      have hdown' : ∀ (i : Nat) (o' : Oper), ops[i]? = some o' → (listed.setIfInBounds j true).getD i false = true → ∀ e ∈ edgesOf o', (listed.setIfInBounds j true).getD e false = true := by
        intro i o' ho' hi e he
        rw [hget] at hi ⊢
        split at hi
        · rename_i hij
          subst hij
          rw [hoj] at ho'; cases ho'
          split
          · rfl
          · exact hje e he
        · split
          · rfl
          · exact hI.down i o' ho' hi e he
      unfold wpOpIn
      simp only [hoj]
      by_cases hjp : j < k
      · -- a pure one
        obtain ⟨hpk, _⟩ := hpure hjp
        obtain ⟨sp1, _, _⟩ := spec hp (List.mem_of_getElem? hI.heap)
        obtain ⟨x, hxp, hxd⟩ := sp1 j oj (Nat.zero_le _) hjp hoj
        have hxp' : xp P call ops hp tm oj = some x := by
          rw [xp_congr (tm' := tmK) (fun t ht => getD_of (hsame t ht))]; exact hxp
        obtain ⟨pv', hst, _, _⟩ := xp_step (pv := []) hpk hxp'
        have hdst : ∀ (i : Nat) (o : Oper), i < k → i ≠ j → ops[i]? = some o → oj.dst ≠ none → o.dst ≠ oj.dst := by
          intro i o hik hij ho hne he
          rcases Nat.lt_or_ge i j with h' | h'
          · exact ((late_at hd hoj).2.2.1 hjp).2 i o h' ho hne he
          · exact ((late_at hd ho).2.2.1 hik).2 j oj (by omega) hoj (by rw [he]; exact hne) he.symm
        refine xStep_sound hcall hr hst fun S' w' m' hv' a' hg hr' hdd hsz => ?_
        refine ih (i := i) (by have := unl_step hI.sz hjl hj0; omega) ⟨by simp [hI.sz], hI.hi, fun i' hi' => by rw [hget, if_neg (by omega)]; exact hI.far i' hi', fun i' h1 h2 => by rw [hget, if_neg (by omega)]; exact hI.mid i' h1 h2, hdown',
          by rw [putA_length]; exact hI.len, ?_, ?_, hI.heap⟩ ⟨hr'.1, hr'.2.1, by intro p hp; cases hp⟩
          fun S'' w'' m'' hv'' a'' hg' hr'' hd' hsz' => hK S'' w'' m'' hv'' a'' (hg.trans hg') hr'' (hd'.trans hdd) (hsz'.trans hsz)
        · intro i' o d hik ho hod hi'
          rw [hget] at hi'
          by_cases hij : i' = j
          · subst hij
            rw [hoj] at ho; cases ho
            rw [hod]
            by_cases hdl : d < tm.length
            · rw [hxd d hod (by rw [← hI.len]; exact hdl)]; simp [putA, hdl]
            · simp only [putA]
              rw [List.getElem?_eq_none (by simp; omega), List.getElem?_eq_none (by rw [sp3, ← hI.len]; omega)]
          · rw [if_neg hij] at hi'
            rw [putA_get]
            · exact hI.got i' o d hik ho hod hi'
            · intro he
              exact hdst i' o hik hij ho (by rw [he]; simp) (by rw [hod, he])
        · intro t ht
          rw [putA_get (ht j oj hjp hoj (by rw [hget, if_pos rfl]))]
          exact hI.old t fun i' o hik ho hi' => ht i' o hik ho (by rw [hget]; split <;> simp_all)
      · -- a store
        have hji : j = k + i := by
          have h1 := hI.mid j (by omega) hjk
          rw [hj0] at h1
          have h1' : ¬ j < k + i := by simpa using h1.symm
          rcases Nat.lt_or_ge (k + i) j with h' | h'
          · have := anc_listed hI.down ops.size j oj hoj hje (k + i) (hmidanc (by omega) (k + i) (by omega) h')
            have h2 := hI.mid (k + i) (by omega) (by omega)
            rw [this] at h2; simp at h2
          · omega
        subst hji
        have hol : ((ops.toList.drop k).take n)[i]? = some oj := by
          rw [List.getElem?_take, if_pos (by omega), List.getElem?_drop]; simpa using hoj
        obtain ⟨h1, h2, h3, h4, h5⟩ := sl3 i oj hol
        rw [hI.heap] at h3; cases h3
        have hst : xStep P call ops ⟨tm, hp, []⟩ oj = some ⟨tm, h2, []⟩ := xLate_step (by rw [xLate_congr (ops := ops) (tm' := tmK) (fun t ht => getD_of (hsame t ht))]; exact h5)
        refine xStep_sound hcall hr hst fun S' w' m' hv' a' hg hr' hdd hsz => ?_
        refine ih (i := i + 1) (by have := unl_step hI.sz hjl hj0; omega) ⟨by simp [hI.sz], by omega, fun i' hi' => by rw [hget, if_neg (by omega)]; exact hI.far i' hi', fun i' g1 g2 => ?_, hdown', hI.len, ?_, ?_, h4⟩ hr'
          fun S'' w'' m'' hv'' a'' hg' hr'' hd' hsz' => hK S'' w'' m'' hv'' a'' (hg.trans hg') hr'' (hd'.trans hdd) (hsz'.trans hsz)
        · rw [hget]
          split
          · subst_vars; simp
          · rw [hI.mid i' g1 g2]; simp; omega
        · intro i' o d hik ho hod hi'
          rw [hget, if_neg (by omega)] at hi'
          exact hI.got i' o d hik ho hod hi'
        · intro t ht
          exact hI.old t fun i' o hik ho hi' => ht i' o hik ho (by rw [hget, if_neg (by omega)]; exact hi')

/-- a region that draws its order, with n stores behind k pure operations, at any moment -/
theorem W.late {id : Nat} (k n : Nat) {tmK : List AV} {hps : List (List Blk)} {hpn : List Blk} (call : CallT) (hm : P.follows .mixedOrders = true) (hcall : CallOk P call) (hd : drawLateOk ops k n = true) (hk : k + n ≤ ops.size)
    (hls : xLates P tmK ((ops.toList.drop k).take n) s.hp = some hps) (hx : xPre P call ops s.hp (ops.toList.take k) s.tm = some tmK) (hfr : ∀ h ∈ hps, ∀ o ∈ ops.toList.take k, xp P call ops h tmK o = xp P call ops s.hp tmK o) (hlast : hps[n]? = some hpn)
    (h : wOps Ev ops (ops.toList.drop (k + n)) ⟨tmK, hpn, []⟩ s.b (fun s' b' => Q .normal ⟨s'.tm, s'.hp, b'⟩)) : W Ev (.region id ops true) s Q := by
  intro lo r S X V w m B hv a ht
  refine wpIn_region_any hm ?_
  have ht' := ht.drew
  have hget : ∀ j, (Array.replicate ops.size false).getD j false = false := by intro j; simp [Array.getElem?_replicate]; split <;> rfl
  have h0 : hps[0]? = some s.hp := (xLates_get hls).2.1
  refine late_sound hcall hd hk hls hx hfr hlast ops.size (i := 0) (tm := s.tm) ?_ ⟨by simp, Nat.zero_le _, fun j _ => hget j, fun j h1 _ => (by rw [hget]; simp; omega), fun j o' _ hj => (by rw [hget] at hj; cases hj), rfl,
    fun j o d _ _ _ hj => (by rw [hget] at hj; cases hj), fun _ _ => rfl, h0⟩ ht'.rel ?_
  · have : unl ops.size (Array.replicate ops.size false) = List.range ops.size := by
      unfold unl
      rw [List.filter_eq_self]
      intro j _; rw [hget]; rfl
    rw [this]; simp
  · intro S' w' m' hv' a' hg hr hd' hsz listed hls' hl
    refine tail_sound (s := ⟨tmK, hpn, []⟩) (b := s.b) (k := k + n) (fun i o ho => (late_at hd ho).1) (fun i o ho => (late_at hd ho).2.2.2.2) _ rfl (Nat.le_refl _) hls' hl (ht'.step hg hr hd') h fun s' b' hq S'' X'' V'' w'' m'' hv'' a'' hw hm' ht'' => ?_
    exact ⟨⟨s'.tm, s'.hp, b'⟩, S'', X'', V'', m'', hv'', hq, ⟨((went_drew ht.rel.slt).trans (hg.went hr.slt)).trans hw, hg.ms.trans hm'⟩, ⟨⟨ht''.rel.1, ht''.rel.2.1, by intro p hp; cases hp⟩, ht''.sub, ht''.env, ht''.round, ht''.marks, ht''.base⟩⟩

end
end Go.Proofs.Ytgdeoaiakdkhcaa.Am
