/- A region that draws its order. -/
import Derived.Test.YtgdeoaiakdkhcaaAmO
namespace Go.Proofs.Ytgdeoaiakdkhcaa.Am
set_option linter.unusedVariables false
open Go Go.RowKit

/-- how many are not listed yet -/
def unl (N : Nat) (listed : Array Bool) : List Nat := (List.range N).filter fun j => !listed.getD j false

theorem unl_step {N i : Nat} {listed : Array Bool} (hs : listed.size = N) (hi : i < N) (h0 : listed.getD i false = false) : (unl N (listed.setIfInBounds i true)).length + 1 = (unl N listed).length := by
  have e : unl N (listed.setIfInBounds i true) = (unl N listed).erase i := by
    have hnd : (unl N listed).Nodup := List.Pairwise.filter _ List.nodup_range
    rw [hnd.erase_eq_filter]
    unfold unl
    rw [List.filter_filter]
    refine List.filter_congr fun j hj => ?_
    have hjl : j < N := List.mem_range.1 hj
    simp only [Array.getD_eq_getD_getElem?, Array.getElem?_setIfInBounds]
    by_cases hji : i = j
    · subst hji; simp [hs, hjl]
    · simp [hji, Ne.symm hji]
  have hm : i ∈ unl N listed := by simp only [unl, List.mem_filter, List.mem_range, h0]; exact ⟨hi, rfl⟩
  rw [e, List.length_erase_of_mem hm]
  have := List.length_pos_of_mem hm
  omega

section
variable {P : Program} {S S' S'' X : Pr} {yv : Option Nat} {w w' w'' : World} {m m' m'' : List MB} {A B : List (AV × Value)} {hp hp' : List Blk} {hv : List (List Value)} {call : CallT} {s s' : RS} {a : Act} {o : Oper} {ops : Array Oper}

/-- what a pure operation reads an accumulator out of -/
def pvOf (P : Program) (hp : List Blk) (tm : List AV) (o : Oper) : Option (Nat × Loc) :=
  match o.guard with
  | none => pvRead P ⟨tm, hp, []⟩ o
  | some _ => none

theorem pvRead_pv {tm : List AV} {pv : List (Nat × Loc)} : pvRead P ⟨tm, hp, pv⟩ o = pvRead P ⟨tm, hp, []⟩ o := by
  unfold pvRead; rfl

/-- a pure operation is a step -/
theorem xp_step {tm : List AV} {pv : List (Nat × Loc)} {x : AV} (hk : pureKind o = true) (h : xp P call ops hp tm o = some x) :
    ∃ pv', xStep P call ops ⟨tm, hp, pv⟩ o = some ⟨putA tm o.dst x, hp, pv'⟩ ∧ (∀ p ∈ pvPut pv o.dst, p ∈ pv') ∧ (∀ p, pvOf P hp tm o = some p → p ∈ pv') := by
  unfold xp at h
  split at h
  · rename_i hw
    cases h
    refine ⟨pvPut pv o.dst, by simp [xStep, hw], fun p h => h, fun p hp => ?_⟩
    unfold pvOf at hp
    cases hg : o.guard with
    | none => simp [wantedA, hg] at hw
    | some g => simp [hg] at hp
  · rename_i hw
    split at h
    · rename_i c ho
      have hpv : pvOf P hp tm o = none := by
        unfold pvOf
        split
        · unfold pvRead; rw [ho]; cases o.dst <;> rfl
        · rfl
      split at h
      · rename_i f hc
        split at h <;> try (cases h; done)
        rename_i k args hargs
        split at h <;> try (cases h; done)
        rename_i hcl
        simp only [Option.map_eq_some_iff] at h
        obtain ⟨r, hr, rfl⟩ := h
        have hxa : xa P ⟨tm, hp, pv⟩ o = none := by simp [xa, ho, hc]
        refine ⟨pvPut pv o.dst, ?_, fun p h => h, fun p hp => (by rw [hpv] at hp; cases hp)⟩
        simp only [xStep, hw, hxa]
        simp [xh, ho, hc, hargs, hcl, hr]
      · rename_i hc
        have hxa : xa P ⟨tm, hp, pv⟩ o = none := by
          unfold xa
          rw [ho]
          simp only
          split
          · rename_i h1 h2 h3
            simp [pureKind, ho, h1] at hk
          · rfl
        have hxh : xh P call ⟨tm, hp, pv⟩ o = none := by
          unfold xh
          rw [ho]
          simp only
          split
          · rename_i f h1; exact absurd h1 (hc f)
          · rename_i h1; simp [pureKind, ho, h1] at hk
          · rfl
        refine ⟨(pvRead P ⟨tm, hp, pv⟩ o).toList ++ pvPut pv o.dst, ?_, fun p h => List.mem_append_right _ h, fun p hp => (by rw [hpv] at hp; cases hp)⟩
        simp only [xStep, hw, hxa, hxh, h]
    · rename_i hno
      have hxa : xa P ⟨tm, hp, pv⟩ o = none := by
        unfold xa
        split
        · rename_i c ho
          exact absurd ho (hno c)
        · rfl
      have hxh : xh P call ⟨tm, hp, pv⟩ o = none := by
        unfold xh
        split <;> rename_i ho <;> first | (simp [pureKind, ho] at hk; done) | (exact absurd ho (hno _)) | rfl | (simp only [xq, ho] at h; split at h <;> simp_all)
      refine ⟨(pvRead P ⟨tm, hp, pv⟩ o).toList ++ pvPut pv o.dst, by simp only [xStep, hw, hxa, hxh, h], fun p h => List.mem_append_right _ h, fun p hpp => List.mem_append_left _ ?_⟩
      unfold pvOf at hpp
      split at hpp
      · rw [pvRead_pv, hpp]; simp
      · cases hpp
  · cases h

theorem pvRead_congr {tm tm' : List AV} (h : ∀ t ∈ o.looksAt ops, tm.getD t .bad = tm'.getD t .bad) (hl : tm.length = tm'.length) : pvRead P ⟨tm, hp, []⟩ o = pvRead P ⟨tm', hp, []⟩ o := by
  have hs : ∀ d : Nat, (tm[d]?).isSome = (tm'[d]?).isSome := by
    intro d
    by_cases hd : d < tm.length
    · simp [hd, show d < tm'.length by omega]
    · simp [hd, show ¬ d < tm'.length by omega]
  have hop : ∀ t, Operand.tmp t ∈ o.op.operands → tm.getD t .bad = tm'.getD t .bad := fun t ht =>
    h t (List.mem_append_left _ (List.mem_filterMap.2 ⟨.tmp t, by simpa using ht, rfl⟩))
  unfold pvRead
  split
  · rename_i d x hd ho
    simp only [hop x (by simp [ho, Op.operands]), hs d]
  · rename_i d t q hd ho
    simp only [hop q (by simp [ho, Op.operands]), hs d]
  · rfl

theorem pvOf_congr {tm tm' : List AV} (h : ∀ t ∈ o.looksAt ops, tm.getD t .bad = tm'.getD t .bad) (hl : tm.length = tm'.length) : pvOf P hp tm o = pvOf P hp tm' o := by
  unfold pvOf
  rw [pvRead_congr h hl]

/-- accumulators that the first k operations read -/
def pvAll (P : Program) (hp : List Blk) (tmK : List AV) (pre : List Oper) : List (Nat × Loc) :=
  (pre.filterMap (pvOf P hp tmK)).filter fun p => match p.2 with
    | .slot x => pre.all fun o => o.dst != some x
    | _ => true

theorem pvOf_dst {tm : List AV} {p : Nat × Loc} (h : pvOf P hp tm o = some p) : o.dst = some p.1 := by
  unfold pvOf at h
  split at h <;> try (cases h; done)
  unfold pvRead at h
  split at h
  · rename_i d x hd ho
    split at h <;> try (cases h; done)
    cases h; exact hd
  · rename_i d t q hd ho
    split at h <;> try (cases h; done)
    split at h <;> try (cases h; done)
    split at h <;> try (cases h; done)
    cases h; exact hd
  · cases h

theorem pre_sound {r : Option Nat} {Q : Exit → Act → World → Prop} {k : Nat} (hcall : CallOk P call) (hd : drawOk ops k = true) (hk : k ≤ ops.size) {tm0 tmK : List AV}
    (hx1 : xPre P call ops hp (ops.toList.take k) tm0 = some tmK) :
    ∀ (n : Nat) {S : Pr} {w : World} {m : List MB} {hv : List (List Value)} {a : Act} {listed : Array Bool} {tm : List AV} {pv : List (Nat × Loc)},
    n = (unl ops.size listed).length → listed.size = ops.size → (∀ j, k ≤ j → listed.getD j false = false) →
    (∀ (j : Nat) (o' : Oper), ops[j]? = some o' → listed.getD j false = true → ∀ e ∈ edgesOf o', listed.getD e false = true) →
    tm.length = tm0.length →
    (∀ (j : Nat) (o : Oper) (d : Nat), j < k → ops[j]? = some o → o.dst = some d → listed.getD j false = true → tm[d]? = tmK[d]?) →
    (∀ t, (∀ (j : Nat) (o : Oper), j < k → ops[j]? = some o → listed.getD j false = true → o.dst ≠ some t) → tm[t]? = tm0[t]?) →
    (∀ (j : Nat) (o : Oper) (p : Nat × Loc), j < k → ops[j]? = some o → listed.getD j false = true → pvOf P hp tmK o = some p → p ∈ pvAll P hp tmK (ops.toList.take k) → p ∈ pv) →
    RelS S X yv w m B hv ⟨tm, hp, pv⟩ a →
    Nx S X yv w m B ⟨tmK, hp, pvAll P hp tmK (ops.toList.take k)⟩ a (fun a w => ∀ listed : Array Bool, listed.size = ops.size → (∀ j, j < ops.size → listed.getD j false = decide (j < k)) → wpAnyIn (Fn r) 0 P .any ops Q (ops.size - k) listed a w) →
    wpAnyIn (Fn r) 0 P .any ops Q n listed a w := by
  obtain ⟨sp1, sp2, sp3⟩ := xPre_spec (call := call) hd hk k (i := 0) (tm := tm0) (tmK := tmK) rfl (Nat.zero_le _) (by simpa using hx1)
  intro n
  induction n with
  | zero =>
    intro S w m hv a listed tm pv hn hls hlk hdown htl h1 h2 h3 hr hK
    -- all are listed
    have hall : ∀ j, j < ops.size → listed.getD j false = true := by
      intro j hj
      cases hh : listed.getD j false with
      | true => rfl
      | false =>
        have : j ∈ unl ops.size listed := by simp only [unl, List.mem_filter, List.mem_range, hh]; exact ⟨hj, rfl⟩
        rw [List.length_eq_zero_iff.1 hn.symm] at this; cases this
    have hkk : k = ops.size := by
      rcases Nat.lt_or_ge k ops.size with h' | h'
      · have := hall k h'; rw [hlk k (Nat.le_refl _)] at this; cases this
      · omega
    subst hkk
    have htm : tm = tmK := by
      apply List.ext_getElem?
      intro t
      by_cases hc : ∃ (j : Nat) (o : Oper), j < ops.size ∧ ops[j]? = some o ∧ o.dst = some t
      · obtain ⟨j, o, g1, g2, g3⟩ := hc
        exact h1 j o t g1 g2 g3 (hall j g1)
      · rw [h2 t (fun j o g1 g2 _ g3 => hc ⟨j, o, g1, g2, g3⟩), sp2 t (fun j o _ g1 g2 g3 => hc ⟨j, o, g1, g2, g3⟩)]
    subst htm
    have hpv : ∀ p ∈ pvAll P hp tm (ops.toList.take ops.size), p ∈ pv := by
      intro p hp'
      have hp0 := hp'
      simp only [pvAll, List.mem_filter, List.mem_filterMap] at hp'
      obtain ⟨⟨o, ho, hpo⟩, _⟩ := hp'
      obtain ⟨j, hj⟩ := List.mem_iff_getElem?.1 (List.mem_of_mem_take ho)
      have hjo : ops[j]? = some o := by simpa using hj
      exact h3 j o p (Array.getElem?_eq_some_iff.1 hjo).1 hjo (hall j (Array.getElem?_eq_some_iff.1 hjo).1) hpo hp0
    have := hK S w m hv a (Gs.refl _ _ _ _ _) ⟨hr.1, hr.2.1, fun p hp => hr.2.2 p (hpv p hp)⟩ rfl rfl listed hls (fun j hj => by rw [hall j hj]; simp [hj])
    rw [Nat.sub_self] at this
    exact this
  | succ n ih =>
    intro S w m hv a listed tm pv hn hls hlk hdown htl h1 h2 h3 hr hK
    by_cases hdone : ∀ j, j < k → listed.getD j false = true
    · -- the pure ones are done
      have htm : tm = tmK := by
        apply List.ext_getElem?
        intro t
        by_cases hc : ∃ (j : Nat) (o : Oper), j < k ∧ ops[j]? = some o ∧ o.dst = some t
        · obtain ⟨j, o, g1, g2, g3⟩ := hc
          exact h1 j o t g1 g2 g3 (hdone j g1)
        · rw [h2 t (fun j o g1 g2 _ g3 => hc ⟨j, o, g1, g2, g3⟩), sp2 t (fun j o _ g1 g2 g3 => hc ⟨j, o, g1, g2, g3⟩)]
      subst htm
      have hpv : ∀ p ∈ pvAll P hp tm (ops.toList.take k), p ∈ pv := by
        intro p hp'
        have hp0 := hp'
        simp only [pvAll, List.mem_filter, List.mem_filterMap] at hp'
        obtain ⟨⟨o, ho, hpo⟩, _⟩ := hp'
        obtain ⟨j, hj⟩ := List.mem_iff_getElem?.1 ho
        rw [List.getElem?_take] at hj
        split at hj <;> try (cases hj; done)
        rename_i hjk
        have hjo : ops[j]? = some o := by simpa using hj
        exact h3 j o p hjk hjo (hdone j hjk) hpo hp0
      have hlist : ∀ j, j < ops.size → listed.getD j false = decide (j < k) := by
        intro j hj
        by_cases hjk : j < k
        · rw [hdone j hjk]; simp [hjk]
        · rw [hlk j (by omega)]; simp [hjk]
      have hcount : (unl ops.size listed).length = ops.size - k := by
        have e : unl ops.size listed = (List.range ops.size).filter fun j => !decide (j < k) := by
          unfold unl
          refine List.filter_congr fun j hj => ?_
          rw [hlist j (List.mem_range.1 hj)]
        rw [e]
        have e2 : List.range ops.size = List.range k ++ (List.range (ops.size - k)).map (k + ·) := by
          rw [← List.range_add]; congr 1; omega
        rw [e2, List.filter_append]
        have e3 : (List.range k).filter (fun j => !decide (j < k)) = [] := by
          rw [List.filter_eq_nil_iff]; intro j hj; simp [List.mem_range.1 hj]
        rw [e3, List.filter_eq_self.2]
        · simp
        · intro j hj
          obtain ⟨i, _, rfl⟩ := List.mem_map.1 hj
          simp
      rw [hn, hcount]
      exact hK S w m hv a (Gs.refl _ _ _ _ _) ⟨hr.1, hr.2.1, fun p hp => hr.2.2 p (hpv p hp)⟩ rfl rfl listed hls hlist
    · -- one of them
      have hex : ∃ j, j < k ∧ listed.getD j false = false := by
        apply Classical.byContradiction
        intro hno
        exact hdone fun j hj => by
          cases hh : listed.getD j false with
          | true => rfl
          | false => exact absurd ⟨j, hj, hh⟩ hno
      have hmin : ∃ j, j < k ∧ listed.getD j false = false ∧ ∀ i, i < j → listed.getD i false = true := by
        obtain ⟨j, hj⟩ := hex
        induction j using Nat.strongRecOn with
        | ind j ihj =>
          by_cases hall : ∀ i, i < j → listed.getD i false = true
          · exact ⟨j, hj.1, hj.2, hall⟩
          · have : ∃ i, i < j ∧ listed.getD i false = false := by
              apply Classical.byContradiction
              intro hno
              exact hall fun i hi => by
                cases hh : listed.getD i false with
                | true => rfl
                | false => exact absurd ⟨i, hi, hh⟩ hno
            obtain ⟨i, hi, hi0⟩ := this
            exact ihj i hi ⟨by omega, hi0⟩
      obtain ⟨j0, hj0k, hj00, hj0all⟩ := hmin
      have hgt : ∀ j, j < ops.size → listed.getD j true = listed.getD j false := by
        intro j hj; simp [hls, hj]
      have hmem : j0 ∈ Region.ready .any ops listed := by
        have hj0 : j0 < ops.size := by omega
        refine ready_of_edges (o := ops[j0]) (by simp [hj0]) (by rw [hgt j0 hj0]; exact hj00) fun e he => ?_
        exact hj0all e ((drawOk_at hd (by simp [hj0])).1 e he)
      refine ⟨fun h0 => (by rw [h0] at hmem; cases hmem), fun j hj => ?_⟩
      obtain ⟨oj, hoj, hj0, hje⟩ := ready_edges hj
      have hjl : j < ops.size := (Array.getElem?_eq_some_iff.1 hoj).1
      rw [hgt j hjl] at hj0
      have hjk : j < k := by
        rcases Nat.lt_or_ge j k with h' | h'
        · exact h'
        · have := anc_listed hdown ops.size j oj hoj hje j0 ((drawOk_at hd hoj).2.2 h' j0 (by omega))
          rw [hj00] at this; cases this
      obtain ⟨hedge, hpre, _⟩ := drawOk_at hd hoj
      obtain ⟨hpk, hlook, _⟩ := hpre hjk
      have hsame : ∀ t ∈ oj.looksAt ops, tm[t]? = tmK[t]? := by
        intro t ht
        by_cases hc : ∃ (i : Nat) (o : Oper), i < k ∧ ops[i]? = some o ∧ o.dst = some t
        · obtain ⟨i, o, g1, g2, g3⟩ := hc
          exact h1 i o t g1 g2 g3 (hje i (hlook t ht i o g1 g2 g3))
        · rw [h2 t (fun j o g1 g2 _ g3 => hc ⟨j, o, g1, g2, g3⟩), sp2 t (fun j o _ g1 g2 g3 => hc ⟨j, o, g1, g2, g3⟩)]
      obtain ⟨x, hxp, hxd⟩ := sp1 j oj (Nat.zero_le _) hjk hoj
      have hxp' : xp P call ops hp tm oj = some x := by
        rw [xp_congr (tm' := tmK) (fun t ht => getD_of (hsame t ht))]; exact hxp
      obtain ⟨pv', hst, hpv1, hpv2⟩ := xp_step (pv := pv) hpk hxp'
      rw [pvOf_congr (ops := ops) (tm' := tmK) (fun t ht => getD_of (hsame t ht)) (htl.trans sp3.symm)] at hpv2
      unfold wpOpIn
      simp only [hoj]
      have hget : ∀ i, (listed.setIfInBounds j true).getD i false = (if i = j then true else listed.getD i false) := by
        intro i
        simp only [Array.getD_eq_getD_getElem?, Array.getElem?_setIfInBounds]
        by_cases hij : j = i
        · subst hij; simp [hls, hjl]
        · simp [hij, Ne.symm hij]
      have hdst : ∀ (i : Nat) (o : Oper), i < k → i ≠ j → ops[i]? = some o → oj.dst ≠ none → o.dst ≠ oj.dst := by
        intro i o hik hij ho hne he
        rcases Nat.lt_or_ge i j with h' | h'
        · exact ((drawOk_at hd hoj).2.1 hjk).2.2 i o h' ho hne he
        · exact ((drawOk_at hd ho).2.1 hik).2.2 j oj (by omega) hoj (by rw [he]; exact hne) he.symm
      refine xStep_sound hcall hr hst fun S' w' m' hv' a' hg hr' hdd hsz => ?_
      refine ih (by have := unl_step hls hjl hj0; omega) (by simp [hls]) ?_ ?_ (by rw [putA_length]; exact htl) ?_ ?_ ?_ hr'
        fun S'' w'' m'' hv'' a'' hg' hr'' hd' hsz' => hK S'' w'' m'' hv'' a'' (hg.trans hg') hr'' (hd'.trans hdd) (hsz'.trans hsz)
      · intro i hi
        rw [hget, if_neg (by omega)]; exact hlk i hi
      · intro i o' ho' hi e he
        rw [hget] at hi ⊢
        split at hi
        · rename_i hij
          subst hij
          rw [hoj] at ho'; cases ho'
          split
          · rfl
          · exact hje e he
        · split
          · rfl
          · exact hdown i o' ho' hi e he
      · intro i o d hik ho hod hi
        rw [hget] at hi
        by_cases hij : i = j
        · subst hij
          rw [hoj] at ho; cases ho
          rw [hod]
          by_cases hdl : d < tm.length
          · rw [hxd d hod (by rw [← htl]; exact hdl)]; simp [putA, hdl]
          · simp only [putA]
            rw [List.getElem?_eq_none (by simp; omega), List.getElem?_eq_none (by omega)]
        · rw [if_neg hij] at hi
          rw [putA_get]
          · exact h1 i o d hik ho hod hi
          · intro he
            exact hdst i o hik hij ho (by rw [he]; simp) (by rw [hod, he])
      · intro t ht
        rw [putA_get (ht j oj hjk hoj (by rw [hget, if_pos rfl]))]
        exact h2 t fun i o hik ho hi => ht i o hik ho (by rw [hget]; split <;> simp_all)
      · intro i o p hik ho hi hpo hpa
        rw [hget] at hi
        by_cases hij : i = j
        · subst hij
          rw [hoj] at ho; cases ho
          exact hpv2 p hpo
        · rw [if_neg hij] at hi
          have hin := h3 i o p hik ho hi hpo hpa
          refine hpv1 p ?_
          cases hjd : oj.dst with
          | none => exact hin
          | some d =>
            simp only [pvPut, List.mem_filter, Bool.and_eq_true, bne_iff_ne, ne_eq]
            refine ⟨hin, fun he => ?_, fun he => ?_⟩
            · exact hdst i o hik hij ho (by rw [hjd]; simp) (by rw [pvOf_dst hpo, he, hjd])
            · simp only [pvAll, List.mem_filter] at hpa
              have hpa2 := hpa.2
              rw [he] at hpa2
              simp only [List.all_eq_true, bne_iff_ne, ne_eq] at hpa2
              have hmem' : oj ∈ ops.toList.take k := by
                refine List.mem_iff_getElem?.2 ⟨j, ?_⟩
                rw [List.getElem?_take, if_pos hjk]; simpa using hoj
              exact hpa2 oj hmem' hjd

end
end Go.Proofs.Ytgdeoaiakdkhcaa.Am
