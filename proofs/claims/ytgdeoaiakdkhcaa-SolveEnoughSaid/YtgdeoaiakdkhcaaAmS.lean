/- A logic over abstract states: code. -/
import Derived.Test.YtgdeoaiakdkhcaaAmR
namespace Go.Proofs.Ytgdeoaiakdkhcaa.Am
set_option linter.unusedVariables false
open Go Go.RowKit

/-- the abstract state of an activation between two regions -/
structure St (β : Type) where
  tm : List AV
  hp : List Blk
  b : β

abbrev St.rs {β : Type} (s : St β) : RS := ⟨s.tm, s.hp, []⟩

/-- what is shown behind a piece of code -/
def Beh {P : Program} (Ev : Env P) (lo : Nat) (r : Option Nat) (S X V : Pr) (w : World) (m : List MB) (B : List (AV × Value)) (Q : Exit → St Ev.β → Prop) (e : Exit) (a' : Act) (w' : World) : Prop :=
  ∃ s' S' X' V' m' hv', Q e s' ∧ (Went Ev.L S X V w S' X' V' w' ∧ MStep m m') ∧ Tie Ev lo r S' X' V' w' m' B hv' s'.rs s'.b a'

/-- from the abstract state s, the code c leads to Q -/
def W {P : Program} (Ev : Env P) (c : Code) (s : St Ev.β) (Q : Exit → St Ev.β → Prop) : Prop :=
  ∀ (lo : Nat) (r : Option Nat) (S X V : Pr) (w : World) (m : List MB) (B : List (AV × Value)) (hv : List (List Value)) (a : Act), Tie Ev lo r S X V w m B hv s.rs s.b a →
    c.wpIn (Fn r) 0 P (Beh Ev lo r S X V w m B Q) a w

/-- the exit of a block is caught -/
def catchExit {α : Type} (id : Nat) (Q : Exit → α → Prop) : Exit → α → Prop
  | .exit id', s => if id' = id then Q .normal s else Q (.exit id') s
  | e, s => Q e s

/-- behind the first of two -/
def thenW {α : Type} (K : α → Prop) (Q : Exit → α → Prop) : Exit → α → Prop
  | .normal, s => K s
  | e, s => Q e s

section
variable {P : Program} {S S' S'' X X' V V' Z : Pr} {L : Nat → Prop} {r : Option Nat} {lo : Nat} {yv : Option Nat} {w w' w'' : World} {m m' m'' : List MB} {A B : List (AV × Value)} {hp hp' : List Blk} {hv hv' : List (List Value)} {call : CallT} {a a' : Act} {o : Oper} {ops : Array Oper} {Ev : Env P}
  {s : St Ev.β} {Q Q' : Exit → St Ev.β → Prop} {c c' : Code}

theorem Beh.from {e : Exit} (hm : Went Ev.L S X V w S' X' V' w' ∧ MStep m m') (h : Beh Ev lo r S' X' V' w' m' B Q e a w'') : Beh Ev lo r S X V w m B Q e a w'' := by
  obtain ⟨s', S', X', V', m'', hv', h1, h2, h3⟩ := h
  exact ⟨s', S', X', V', m'', hv', h1, ⟨hm.1.trans h2.1, hm.2.trans h2.2⟩, h3⟩

theorem W.mono (h : W Ev c s Q) (hq : ∀ e s, Q e s → Q' e s) : W Ev c s Q' := fun lo r S X V w m B hv a ht =>
  wpIn_mono (h lo r S X V w m B hv a ht) fun e a' w' ⟨s', S', X', V', m', hv', h1, h2⟩ => ⟨s', S', X', V', m', hv', hq _ _ h1, h2⟩

theorem W.skip (h : Q .normal s) : W Ev .skip s Q := fun lo r S X V w m B hv a ht => wpIn_skip ⟨s, S, X, V, m, hv, h, ⟨Went.refl ht.rel.slt, MStep.refl m⟩, ht⟩
theorem W.label {l : Nat} (h : Q .normal s) : W Ev (.label l) s Q := fun lo r S X V w m B hv a ht => wpIn_label ⟨s, S, X, V, m, hv, h, ⟨Went.refl ht.rel.slt, MStep.refl m⟩, ht⟩
theorem W.exit {id : Nat} (h : Q (.exit id) s) : W Ev (.exit id) s Q := fun lo r S X V w m B hv a ht => wpIn_exit ⟨s, S, X, V, m, hv, h, ⟨Went.refl ht.rel.slt, MStep.refl m⟩, ht⟩
theorem W.goto {l : Nat} (h : Q (.goto l) s) : W Ev (.goto l) s Q := fun lo r S X V w m B hv a ht => wpIn_goto ⟨s, S, X, V, m, hv, h, ⟨Went.refl ht.rel.slt, MStep.refl m⟩, ht⟩
theorem W.ret (h : Q .ret s) : W Ev .ret s Q := fun lo r S X V w m B hv a ht => wpIn_ret ⟨s, S, X, V, m, hv, h, ⟨Went.refl ht.rel.slt, MStep.refl m⟩, ht⟩

theorem W.seq (h : W Ev c s (thenW (fun s' => W Ev c' s' Q) Q)) : W Ev (.seq c c') s Q := by
  intro lo r S X V w m B hv a ht
  refine wpIn_seq (wpIn_mono (h lo r S X V w m B hv a ht) fun e a' w' ⟨s', S', X', V', m', hv', h1, h2, h3⟩ => ?_)
  cases e with
  | normal => exact wpIn_mono (h1 lo r S' X' V' w' m' B hv' a' h3) fun e a'' w'' hb => hb.from h2
  | exit id => exact ⟨s', S', X', V', m', hv', h1, h2, h3⟩
  | goto l => exact ⟨s', S', X', V', m', hv', h1, h2, h3⟩
  | ret => exact ⟨s', S', X', V', m', hv', h1, h2, h3⟩
  | panic ch => exact ⟨s', S', X', V', m', hv', h1, h2, h3⟩
  | outgrown => exact ⟨s', S', X', V', m', hv', h1, h2, h3⟩

theorem W.block {id : Nat} (h : W Ev c s (catchExit id Q)) : W Ev (.block id c) s Q := by
  intro lo r S X V w m B hv a ht
  refine wpIn_block (wpIn_mono (h lo r S X V w m B hv a ht) fun e a' w' ⟨s', S', X', V', m', hv', h1, h2, h3⟩ => ?_)
  cases e with
  | exit id' =>
    simp only [Exit.inBlock, catchExit] at h1 ⊢
    split at h1
    · rename_i hid; rw [if_pos hid]; exact ⟨s', S', X', V', m', hv', h1, h2, h3⟩
    · rename_i hid; rw [if_neg hid]; exact ⟨s', S', X', V', m', hv', h1, h2, h3⟩
  | normal => exact ⟨s', S', X', V', m', hv', h1, h2, h3⟩
  | goto l => exact ⟨s', S', X', V', m', hv', h1, h2, h3⟩
  | ret => exact ⟨s', S', X', V', m', hv', h1, h2, h3⟩
  | panic ch => exact ⟨s', S', X', V', m', hv', h1, h2, h3⟩
  | outgrown => exact ⟨s', S', X', V', m', hv', h1, h2, h3⟩

theorem W.cond {x : Operand} {t : Bool} (hx : evalA s.tm x = .d (.s (.bool t))) (h : W Ev (if t then c else c') s Q) : W Ev (.cond x c c') s Q := by
  intro lo r S X V w m B hv a ht
  have hv' := evalA_sound ht.rel x
  have : a.eval x = .bool t := toVal?_spec (x := evalA s.tm x) (by rw [hx]; rfl) hv'
  exact wpIn_cond this (h lo r S X V w m B hv a ht)

/-- a loop: an invariant, and a number that falls -/
theorem W.loop (I : St Ev.β → Prop) (μ : St Ev.β → Nat) (h0 : I s) (round : ∀ s, I s → W Ev c s (thenW (fun s' => I s' ∧ μ s' < μ s) Q)) : W Ev (.loop c) s Q := by
  intro lo r S X V w m B hv a ht
  have key : ∀ (n : Nat) (s : St Ev.β) (S0 X0 V0 : Pr) (w0 : World) (m0 : List MB) (hv : List (List Value)) (a : Act), μ s ≤ n → I s → (Went Ev.L S X V w S0 X0 V0 w0 ∧ MStep m m0) → Tie Ev lo r S0 X0 V0 w0 m0 B hv s.rs s.b a →
      Code.roundsIn (Fn r) 0 P c (Beh Ev lo r S X V w m B Q) (n + 1) a w0 := by
    intro n
    induction n with
    | zero =>
      intro s S0 X0 V0 w0 m0 hv a hn hI hm ht
      rw [roundsIn_succ]
      refine wpIn_mono (round s hI lo r S0 X0 V0 w0 m0 B hv a ht) fun e a' w' ⟨s', S', X', V', m', hv', h1, h2, h3⟩ => ?_
      cases e with
      | normal => exact absurd h1.2 (by omega)
      | exit id => exact Beh.from hm ⟨s', S', X', V', m', hv', h1, h2, h3⟩
      | goto l => exact Beh.from hm ⟨s', S', X', V', m', hv', h1, h2, h3⟩
      | ret => exact Beh.from hm ⟨s', S', X', V', m', hv', h1, h2, h3⟩
      | panic ch => exact Beh.from hm ⟨s', S', X', V', m', hv', h1, h2, h3⟩
      | outgrown => exact Beh.from hm ⟨s', S', X', V', m', hv', h1, h2, h3⟩
    | succ n ih =>
      intro s S0 X0 V0 w0 m0 hv a hn hI hm ht
      rw [roundsIn_succ]
      refine wpIn_mono (round s hI lo r S0 X0 V0 w0 m0 B hv a ht) fun e a' w' ⟨s', S', X', V', m', hv', h1, h2, h3⟩ => ?_
      cases e with
      | normal => exact ih s' S' X' V' w' m' hv' a' (by have := h1.2; omega) h1.1 ⟨hm.1.trans h2.1, hm.2.trans h2.2⟩ h3
      | exit id => exact Beh.from hm ⟨s', S', X', V', m', hv', h1, h2, h3⟩
      | goto l => exact Beh.from hm ⟨s', S', X', V', m', hv', h1, h2, h3⟩
      | ret => exact Beh.from hm ⟨s', S', X', V', m', hv', h1, h2, h3⟩
      | panic ch => exact Beh.from hm ⟨s', S', X', V', m', hv', h1, h2, h3⟩
      | outgrown => exact Beh.from hm ⟨s', S', X', V', m', hv', h1, h2, h3⟩
  exact wpIn_loop_rounds (μ s + 1) (key (μ s) s S X V w m hv a (Nat.le_refl _) h0 ⟨Went.refl ht.rel.slt, MStep.refl m⟩ ht)

/-- a region, in the order of the text -/
theorem W.region {id : Nat} (h : wOps Ev ops ops.toList s.rs s.b (fun s' b' => Q .normal ⟨s'.tm, s'.hp, b'⟩)) : W Ev (.region id ops false) s Q := by
  intro lo r S X V w m B hv a ht
  refine wpIn_region_list (wOps_sound (b := s.b) ht h fun s' b' hq S' X' V' w' m' hv' a' hw hm ht' => ?_)
  exact ⟨⟨s'.tm, s'.hp, b'⟩, S', X', V', m', hv', hq, ⟨hw, hm⟩, ⟨⟨ht'.rel.1, ht'.rel.2.1, by intro p hp; cases hp⟩, ht'.sub, ht'.env, ht'.round, ht'.marks, ht'.base⟩⟩

/-- behind the pure ones: one after the other -/
theorem tail_sound {QQ : Exit → Act → World → Prop} {R : RS → Ev.β → Prop} {k : Nat} (he : ∀ (i : Nat) (o : Oper), ops[i]? = some o → ∀ j ∈ edgesOf o, j < i) (ha : ∀ (i : Nat) (o : Oper), ops[i]? = some o → k ≤ i → ∀ j, j < i → j ∈ ancOf ops ops.size i) : ∀ (n : Nat) {i : Nat} {s : RS} {b : Ev.β} {S X V : Pr} {w : World} {m : List MB} {hv : List (List Value)} {a : Act} {listed : Array Bool},
    n = ops.size - i → k ≤ i → listed.size = ops.size → (∀ j, j < ops.size → listed.getD j false = decide (j < i)) → Tie Ev lo r S X V w m B hv s b a → wOps Ev ops (ops.toList.drop i) s b R →
    (∀ s' b', R s' b' → Goes Ev lo r S X V w m B s' b' (QQ .normal)) → wpAnyIn (Fn r) 0 P .any ops QQ n listed a w
  | 0, i, s, b, S, X, V, w, m, hv, a, listed, hn, hk, hls, hl, h, hx, hK => by
    have hi : ops.size ≤ i := by omega
    have hdrop : ops.toList.drop i = [] := List.drop_eq_nil_of_le (by simpa using hi)
    rw [hdrop] at hx
    simp only [wOps] at hx
    have hready : Region.ready .any ops listed = [] := by
      rw [List.eq_nil_iff_forall_not_mem]
      intro j hj
      obtain ⟨o, ho, h0, _⟩ := ready_edges hj
      have hjl : j < ops.size := (Array.getElem?_eq_some_iff.1 ho).1
      have := hl j hjl
      simp [hls, hjl] at h0 this
      rw [h0] at this
      simp at this; omega
    exact ⟨hready, hK s b hx S X V w m hv a (Went.refl h.rel.slt) (MStep.refl m) h⟩
  | n + 1, i, s, b, S, X, V, w, m, hv, a, listed, hn, hk, hls, hl, h, hx, hK => by
    have hi : i < ops.size := by omega
    have hoi : ops[i]? = some ops[i] := by simp [hi]
    have hdrop : ops.toList.drop i = ops[i] :: ops.toList.drop (i + 1) := by
      rw [List.drop_eq_getElem_cons (by simpa using hi)]; simp
    rw [hdrop] at hx
    have hdown : ∀ (j : Nat) (o' : Oper), ops[j]? = some o' → listed.getD j false = true → ∀ e ∈ edgesOf o', listed.getD e false = true := by
      intro j o' ho' hj e hee
      have hjl : j < ops.size := (Array.getElem?_eq_some_iff.1 ho').1
      have h1 := he _ _ ho' e hee
      rw [hl j hjl] at hj
      simp at hj
      rw [hl e (by omega)]
      simp; omega
    have hmem : i ∈ Region.ready .any ops listed := by
      refine ready_of_edges hoi ?_ (fun e hee => ?_)
      · have := hl i hi
        simp [hls, hi] at this ⊢; exact this
      · have h1 := he _ _ hoi e hee
        rw [hl e (by omega)]; simp; omega
    refine ⟨fun h0 => (by rw [h0] at hmem; cases hmem), fun j hj => ?_⟩
    obtain ⟨oj, hoj, hj0, hje⟩ := ready_edges hj
    have hjl : j < ops.size := (Array.getElem?_eq_some_iff.1 hoj).1
    have hji : j = i := by
      rcases Nat.lt_trichotomy j i with h1 | h1 | h1
      · have := hl j hjl
        simp [hls, hjl] at hj0 this
        rw [hj0] at this; simp at this; omega
      · exact h1
      · have := anc_listed hdown ops.size j oj hoj hje i (ha _ _ hoj (by omega) i h1)
        rw [hl i hi] at this; simp at this
    subst hji
    unfold wpOpIn
    simp only [hoi]
    refine wOps_cons h hx fun s' b' hx' S' X' V' w' m' hv' a' hw hm ht => ?_
    refine tail_sound he ha n (i := j + 1) (by omega) (by omega) (by simp [hls]) (fun j' hj' => ?_) ht hx'
      fun s'' b'' hr S'' X'' V'' w'' m'' hv'' a'' hw' hm' ht' => hK s'' b'' hr S'' X'' V'' w'' m'' hv'' a'' (hw.trans hw') (hm.trans hm') ht'
    have := hl j' hj'
    simp [hls, hj'] at this ⊢
    rw [Array.getElem_setIfInBounds (by rw [hls]; exact hj')]
    split
    · subst_vars; simp
    · rw [this]; simp; omega

theorem went_drew {L : Nat → Prop} {V : Pr} (hS : ∀ b i, S b i → b < w.heap.size) : Went L S X V w S X V { w with drawn := w.drawn + 1 } :=
  ⟨⟨rfl, rfl, rfl, Nat.le_refl _, fun _ c _ _ h => ⟨c, h, rfl⟩, fun _ _ h _ => .inl h, fun _ _ _ _ h => h, fun _ _ h => h, fun _ _ h => .inl h, hS⟩, fun _ _ h => h, fun _ _ h => .inl h⟩

theorem Tie.drew {s : RS} {b : Ev.β} (h : Tie Ev lo r S X V w m B hv s b a) : Tie Ev lo r S X V { w with drawn := w.drawn + 1 } m B hv s b a := by
  have hb : Below w.heap.size w { w with drawn := w.drawn + 1 } := ⟨rfl, rfl, rfl, Nat.le_refl _, fun _ _ => rfl⟩
  exact h.step (Gs.below h.rel.2.1 hb ⟨fun _ _ h => h, fun _ _ h => .inl h⟩) ⟨h.rel.1, h.rel.2.1.below hb (fun _ _ h => h) (fun _ _ h => .inl h), h.rel.2.2⟩ rfl

/-- a region that draws its order: the first k operations are pure -/
theorem W.draw {id : Nat} (k : Nat) {tmK : List AV} (call : CallT) (hm : P.follows .mixedOrders = true) (hcall : CallOk P call) (hd : drawOk ops k = true) (hk : k ≤ ops.size) (hx : xPre P call ops s.hp (ops.toList.take k) s.tm = some tmK)
    (h : wOps Ev ops (ops.toList.drop k) ⟨tmK, s.hp, pvAll P s.hp tmK (ops.toList.take k)⟩ s.b (fun s' b' => Q .normal ⟨s'.tm, s'.hp, b'⟩)) : W Ev (.region id ops true) s Q := by
  intro lo r S X V w m B hv a ht
  refine wpIn_region_any hm ?_
  have ht' := ht.drew
  have hget : ∀ j, (Array.replicate ops.size false).getD j false = false := by intro j; simp [Array.getElem?_replicate]; split <;> rfl
  refine pre_sound hcall hd hk hx ops.size (tm := s.tm) (pv := []) ?_ (by simp) (fun j _ => hget j) (fun j o' _ hj => by rw [hget] at hj; cases hj) rfl
    (fun j o d _ _ _ hj => by rw [hget] at hj; cases hj) (fun _ _ => rfl) (fun j o p _ _ hj => by rw [hget] at hj; cases hj) ht'.rel ?_
  · have : unl ops.size (Array.replicate ops.size false) = List.range ops.size := by
      unfold unl
      rw [List.filter_eq_self]
      intro j _; rw [hget]; rfl
    rw [this]; simp
  · intro S' w' m' hv' a' hg hr hd' hsz listed hls hl
    refine tail_sound (s := ⟨tmK, s.hp, pvAll P s.hp tmK (ops.toList.take k)⟩) (b := s.b) (fun i o ho => (drawOk_at hd ho).1) (fun i o ho => (drawOk_at hd ho).2.2) _ rfl (Nat.le_refl _) hls hl (ht'.step hg hr hd') h fun s' b' hq S'' X'' V'' w'' m'' hv'' a'' hw hm' ht'' => ?_
    exact ⟨⟨s'.tm, s'.hp, b'⟩, S'', X'', V'', m'', hv'', hq, ⟨((went_drew ht.rel.slt).trans (hg.went hr.slt)).trans hw, hg.ms.trans hm'⟩, ⟨⟨ht''.rel.1, ht''.rel.2.1, by intro p hp; cases hp⟩, ht''.sub, ht''.env, ht''.round, ht''.marks, ht''.base⟩⟩

end
end Go.Proofs.Ytgdeoaiakdkhcaa.Am
