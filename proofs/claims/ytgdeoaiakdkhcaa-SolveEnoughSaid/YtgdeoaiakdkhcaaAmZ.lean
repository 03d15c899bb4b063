/- Blocks that are forgotten. -/
import Derived.Test.YtgdeoaiakdkhcaaAmX
namespace Go.Proofs.Ytgdeoaiakdkhcaa.Am
set_option linter.unusedVariables false
open Go Go.RowKit

/-- the temporaries, without those that lean on forgotten blocks -/
def lowTm (n : Nat) (tm : List AV) : List AV := tm.map fun x => if x.low n then x else .bad

section
variable {P : Program} {S S' S'' X X' V V' Z : Pr} {L : Nat → Prop} {r : Option Nat} {lo : Nat} {yv : Option Nat} {w w' w'' : World} {m m' m'' : List MB} {A B : List (AV × Value)} {hp hp' : List Blk} {tm tm' : List AV} {hv hv' : List (List Value)} {a a' : Act} {Ev : Env P}
  {s : St Ev.β} {b : Ev.β} {Q Q' : Exit → St Ev.β → Prop} {c c' : Code}

theorem ownB_low {n : Nat} {x : AV} {v : Value} {b : Nat} (h : ownB (if x.low n then x else .bad, v) = some b) : ownB (x, v) = some b := by
  split at h
  · exact h
  · cases h

/-- readings that say less -/
theorem Rel.lowered (n : Nat) : ∀ {tm : List AV} {vs : List Value} {C : List (AV × Value)}, Rel S X yv w m (tm.zip vs ++ C) hp hv → Rel S X yv w m ((lowTm n tm).zip vs ++ C) hp hv
  | [], vs, C, h => h
  | x :: tm, [], C, h => by simpa [lowTm] using h
  | x :: tm, v :: vs, C, h => by
    have h1 : Rel S X yv w m (tm.zip vs ++ ((x, v) :: C)) hp hv := h.perm (by simpa using (List.perm_middle (a := (x, v)) (l₁ := tm.zip vs) (l₂ := C)).symm)
    have h2 := Rel.lowered n h1
    have h3 : Rel S X yv w m ((x, v) :: ((lowTm n tm).zip vs ++ C)) hp hv := h2.perm List.perm_middle
    simp only [lowTm, List.map_cons, List.zip_cons_cons, List.cons_append]
    split
    · exact h3
    · exact (h3.sub (List.sublist_cons_self _ _)).cons .bad rfl

/-- blocks that were laid within a piece of code are forgotten at its end -/
theorem W.scratch (h : W Ev c s fun e s' => lowHp s.hp.length s'.hp = true ∧ Q e ⟨lowTm s.hp.length s'.tm, s'.hp.take s.hp.length, s'.b⟩) : W Ev c s Q := by
  intro lo r S X V w m B hv a ht
  refine wpIn_mono (h lo r S X V w m B hv a ht) ?_
  rintro e a' w' ⟨s', S', X', V', m', hv', ⟨hlow, hq⟩, ⟨hw, hm⟩, ht'⟩
  refine ⟨_, S', X', V', m'.take s.hp.length, hv'.take s.hp.length, hq, ⟨hw, hm.take (by rw [ht.rel.2.1.ml]; exact Nat.le_refl _)⟩, ⟨⟨by simpa [lowTm] using ht'.rel.1, ?_, by intro p hp; cases hp⟩, ht'.sub, ht'.env, ht'.round, ht'.marks, ht'.base⟩⟩
  have hn : m.length ≤ s.hp.length := by rw [ht.rel.2.1.ml]; exact Nat.le_refl _
  have h1 := ht'.rel.2.1.lowered (n := s.hp.length)
  rw [← List.append_assoc] at h1 ⊢
  refine h1.trunc (fun p hp => ?_) hlow
  rcases List.mem_append.1 hp with hp | hp
  · have hp1 := (List.of_mem_zip hp).1
    have hrv := h1.rv p (List.mem_append_left _ (List.mem_append_left _ hp))
    refine hrv.low ?_
    obtain ⟨x, _, hx⟩ := List.mem_map.1 hp1
    rw [← hx]
    split
    · assumption
    · rfl
  · have hB := ht.rel.2.1.rv p (List.mem_append_right _ (List.mem_append_left _ hp))
    exact (hB.tr hw.tr).blocks (hm.take hn)

end
end Go.Proofs.Ytgdeoaiakdkhcaa.Am
