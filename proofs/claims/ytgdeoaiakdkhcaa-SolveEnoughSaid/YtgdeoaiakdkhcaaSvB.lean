import Derived.Test.YtgdeoaiakdkhcaaSvA
namespace Go.Proofs.Ytgdeoaiakdkhcaa.Am
set_option linter.unusedVariables false
open Go Go.RowKit Go.Proofs

/-! ### numbers of bits -/
def nbits (n : Nat) : Nat := if n = 0 then 0 else n.log2 + 1
def lead (m : Int) : Int := (2 ^ m.toNat.log2 : Nat)

theorem strTab_all : (List.range 256).map (fun i => strTab[i]?) = (List.range 256).map (fun i => some (UInt8.ofNat (nbits i))) := by kernel_rfl
theorem strTab_at {i : Nat} (h : i < 256) : strTab[i]? = some (UInt8.ofNat (nbits i)) := by
  have := congrArg (fun l => l[i]?) strTab_all
  simpa [h] using this

theorem log2_eq {n k : Nat} (h1 : 2 ^ k ≤ n) (h2 : n < 2 ^ (k + 1)) : n.log2 = k := by
  have h0 : n ≠ 0 := by have := Nat.two_pow_pos k; omega
  have a := (Nat.le_log2 h0).2 h1
  have b := (Nat.log2_lt h0).2 h2
  omega

theorem log2_bounds {n : Nat} (h : n ≠ 0) : 2 ^ n.log2 ≤ n ∧ n < 2 ^ (n.log2 + 1) := ⟨(Nat.le_log2 h).1 (Nat.le_refl _), (Nat.log2_lt h).1 (Nat.lt_succ_self _)⟩

theorem nbits_small {n : Nat} (h : n < 256) : nbits n ≤ 8 := by
  unfold nbits
  split
  · omega
  · rename_i h0
    have : n.log2 < 8 := (Nat.log2_lt h0).2 h
    omega

theorem nbits_div {n : Nat} (h : 256 ≤ n) : nbits n = 8 + nbits (n / 256) := by
  have h0 : n / 256 ≠ 0 := by omega
  obtain ⟨h1, h2⟩ := log2_bounds h0
  have : n.log2 = (n / 256).log2 + 8 := by
    refine log2_eq ?_ ?_
    · rw [Nat.pow_add]; omega
    · rw [show (n / 256).log2 + 8 + 1 = ((n / 256).log2 + 1) + 8 by omega, Nat.pow_add]; omega
  unfold nbits
  rw [if_neg (by omega), if_neg h0]; omega

theorem wrap_u8 {x : Int} (h0 : 0 ≤ x) (h1 : x < 256) : IntKind.wrap .u8 x = x := by
  simp only [IntKind.wrap]; simp [IntKind.signed, IntKind.bits]; omega
theorem wrap_i64 {x : Int} (h0 : -9223372036854775808 ≤ x) (h1 : x < 9223372036854775808) : IntKind.wrap .i64 x = x := by
  simp only [IntKind.wrap]; simp [IntKind.signed, IntKind.bits]; omega
theorem wrap_u64 {x : Int} (h0 : 0 ≤ x) (h1 : x < 18446744073709551616) : IntKind.wrap .u64 x = x := by
  simp only [IntKind.wrap]; simp [IntKind.signed, IntKind.bits]; omega

theorem pc41 (x : Int) (h0 : 0 ≤ x) (h1 : x < 65536) : PCall Try.prog 41 [.d (u64 x)] (.d (i64 (nbits x.toNat))) := by
  refine PCall.ofFn (n := 100) (u := true) mixed CallsOk.nil SCallsOk.nil Try.func41 (by rfl) (by rfl) fun Ev b => ?_
  rw [f41_nf]
  refine BIf.f (by simp; omega) (BIf.f (by simp; omega) (BIf.of (fun h => ?_) fun h => ?_))
  · have h : 256 ≤ x := by simpa using h
    have e : Int.fdiv x 256 = x / 256 := by rw [Int.fdiv_eq_ediv_of_nonneg _ (by omega)]
    rw [e, wrap_u8 (by omega) (by omega)]
    refine BIf.t (by simp; omega) ⟨_, strTab_at (by omega), ?_⟩
    have e2 : (x / 256).toNat = x.toNat / 256 := by omega
    have h3 := nbits_small (n := x.toNat / 256) (by omega)
    have h4 : nbits x.toNat = 8 + nbits (x.toNat / 256) := nbits_div (by omega)
    rw [e2]
    have e3 : (((UInt8.ofNat (nbits (x.toNat / 256))).toNat : Nat) : Int) = nbits (x.toNat / 256) := by
      simp; omega
    rw [e3, wrap_i64 (x := (nbits (x.toNat / 256) : Int)) (by omega) (by omega), wrap_i64 (by omega) (by omega), h4]
    simp
  · have h : x < 256 := by simpa using h
    rw [wrap_u8 (by omega) (by omega)]
    refine BIf.t (by simp; omega) ⟨_, strTab_at (by omega), ?_⟩
    have h3 := nbits_small (n := x.toNat) (by omega)
    have e3 : (((UInt8.ofNat (nbits x.toNat)).toNat : Nat) : Int) = nbits x.toNat := by
      simp; omega
    rw [e3, wrap_i64 (x := (nbits x.toNat : Int)) (by omega) (by omega), wrap_i64 (by omega) (by omega)]
    simp

/-! ### calls' contracts, as what must be shown at a call -/
def c41 (args : List AV) (K : AV → Prop) : Prop := ∃ x : Int, args = [.d (u64 x)] ∧ (0 ≤ x ∧ x < 65536) ∧ K (.d (i64 (nbits x.toNat)))
theorem c41_ok : ∀ args K, c41 args K → ∃ x, PCall Try.prog 41 args x ∧ K x := by
  rintro _ K ⟨x, rfl, ⟨h0, h1⟩, h⟩; exact ⟨_, pc41 x h0 h1, h⟩

theorem f39_nf {β : Type} (wl : WLT β) (y : YieldT β) (b : β) (R : AV → β → Prop) (x : Int) : wpFn Try.prog ⟨[(41, c41)], [], wl, y, true⟩ 100 Try.f39 [.d (u64 x)] b R =
    (∃ x' : Int, [AV.d (u64 x)] = [AV.d (u64 x')] ∧ (0 ≤ x' ∧ x' < 65536) ∧ R (.d (i64 (nbits x'.toNat))) b) := by kernel_rfl
theorem pc39 (x : Int) (h0 : 0 ≤ x) (h1 : x < 65536) : PCall Try.prog 39 [.d (u64 x)] (.d (i64 (nbits x.toNat))) := by
  refine PCall.ofFn (n := 100) (u := true) mixed (CallsOk.cons c41_ok CallsOk.nil) SCallsOk.nil Try.func39 (by rfl) (by rfl) fun Ev b => ?_
  rw [f39_nf]
  exact ⟨x, rfl, ⟨h0, h1⟩, rfl⟩
def c39 (args : List AV) (K : AV → Prop) : Prop := ∃ x : Int, args = [.d (u64 x)] ∧ (0 ≤ x ∧ x < 65536) ∧ K (.d (i64 (nbits x.toNat)))
theorem c39_ok : ∀ args K, c39 args K → ∃ x, PCall Try.prog 39 args x ∧ K x := by
  rintro _ K ⟨x, rfl, ⟨h0, h1⟩, h⟩; exact ⟨_, pc39 x h0 h1, h⟩

/-- leading -/
theorem f32_nf {β : Type} (wl : WLT β) (y : YieldT β) (b : β) (R : AV → β → Prop) (m : Int) (p : List Int) : wpFn Try.prog ⟨[(39, c39)], [], wl, y, true⟩ 100 Try.f32 [eqA m p] b R =
    (∃ x : Int, [AV.d (u64 (IntKind.wrap .u64 m))] = [AV.d (u64 x)] ∧ (0 ≤ x ∧ x < 65536) ∧ BIf (decide ((nbits x.toNat : Int) < 0)) False (R (.d (i64 (Int.fdiv (IntKind.wrap .i64 (1 * 2 ^ min (Int.toNat (nbits x.toNat)) 64)) 2))) b)) := by kernel_rfl
theorem pc32 (m : Int) (p : List Int) (h0 : 1 ≤ m) (h1 : m < 65536) : PCall Try.prog 32 [eqA m p] (.d (i64 (lead m))) := by
  refine PCall.ofFn (n := 100) (u := true) mixed (CallsOk.cons c39_ok CallsOk.nil) SCallsOk.nil Try.func32 (by rfl) (by rfl) fun Ev b => ?_
  rw [f32_nf]
  rw [wrap_u64 (by omega) (by omega)]
  refine ⟨m, rfl, ⟨by omega, h1⟩, BIf.f (by simp) ?_⟩
  have hn : m.toNat ≠ 0 := by omega
  have hl : m.toNat.log2 < 16 := (Nat.log2_lt hn).2 (by omega)
  have e : nbits m.toNat = m.toNat.log2 + 1 := by unfold nbits; rw [if_neg hn]
  have e2 : min (Int.toNat (nbits m.toNat)) 64 = m.toNat.log2 + 1 := by rw [e]; omega
  rw [e2]
  have h2 : 2 ^ m.toNat.log2 ≤ m.toNat := (log2_bounds hn).1
  have h3 : (1 : Int) * 2 ^ (m.toNat.log2 + 1) = ((2 ^ m.toNat.log2 : Nat) : Int) * 2 := by
    rw [Int.one_mul, Int.pow_succ]; simp
  rw [h3]
  unfold lead
  generalize 2 ^ m.toNat.log2 = z at h2
  rw [wrap_i64 (by omega) (by omega), Int.fdiv_eq_ediv_of_nonneg _ (by omega)]
  congr 4; omega
def c32 (args : List AV) (K : AV → Prop) : Prop := ∃ (m : Int) (p : List Int), args = [eqA m p] ∧ (1 ≤ m ∧ m < 65536) ∧ K (.d (i64 (lead m)))
theorem c32_ok : ∀ args K, c32 args K → ∃ x, PCall Try.prog 32 args x ∧ K x := by
  rintro _ K ⟨m, p, rfl, ⟨h0, h1⟩, h⟩; exact ⟨_, pc32 m p h0 h1, h⟩

/-- plus -/
theorem pc33 (p q : List Int) : PCall Try.prog 33 [.agg (cells16 p), .agg (cells16 q)] (.agg (cells16 (xorL p q))) := by
  refine PCall.ofFn (n := 100) (u := true) mixed CallsOk.nil SCallsOk.nil Try.func33 (by rfl) (by rfl) fun Ev b => ?_
  rw [f33_nf']
def c33 (args : List AV) (K : AV → Prop) : Prop := ∃ (p q r : List Int), args = [.agg (cells16 p), .agg (cells16 q)] ∧ r = xorL p q ∧ K (.agg (cells16 r))
theorem c33_ok : ∀ args K, c33 args K → ∃ x, PCall Try.prog 33 args x ∧ K x := by
  rintro _ K ⟨p, q, _, rfl, rfl, h⟩; exact ⟨_, pc33 p q, h⟩

/-- row -/
theorem pc31 (m : Int) (p : List Int) : PCall Try.prog 31 [eqA m p] (rowA m ((List.range 16).map (nth p))) := by
  refine PCall.ofFn (n := 100) (u := true) mixed CallsOk.nil SCallsOk.nil Try.func31 (by rfl) (by rfl) fun Ev b => ?_
  rw [f31_nf]; rfl
def b16 (p : List Int) : List Int := (List.range 16).map (nth p)
def c31 (args : List AV) (K : AV → Prop) : Prop := ∃ (m : Int) (p : List Int) (q : List (List Dv)), args = [eqA m p] ∧ q = bytesR (b16 p) ∧ K (.agg [.d (i64 m), .d (.sl 1 q)])
theorem c31_ok : ∀ args K, c31 args K → ∃ x, PCall Try.prog 31 args x ∧ K x := by
  rintro _ K ⟨m, p, _, rfl, rfl, h⟩; exact ⟨_, pc31 m p, h⟩

/-- formed -/
theorem pad_cells (b : List Int) (z : Dv) : (List.map (fun r => AV.d (List.headD r z)) ((bytesR b).take 16)) ++ (cells16 []).drop (min 16 (bytesR b).length) = cells16 (pad b) := by
  have hz : cells16 [] = (List.replicate 16 (0 : Int)).map fun x => AV.d (u8 x) := rfl
  have hc : cells16 (pad b) = (pad b).map fun x => AV.d (u8 x) := by
    have hl : (pad b).length = 16 := by simp [pad]
    unfold cells16
    apply List.ext_getElem
    · simp [hl]
    · intro i h1 h2
      simp only [List.getElem_map, List.getElem_range, nth]
      rw [List.getD_eq_getElem?_getD, List.getElem?_eq_getElem (by simpa using h2)]; rfl
  rw [hz, hc]
  unfold pad bytesR
  rw [List.take_append, ← List.map_take, List.map_map, ← List.map_drop, List.map_append]
  congr 1
  congr 1
  rw [List.length_map, List.drop_replicate, List.take_replicate]
  congr 1; omega

theorem pc28 (m : Int) (b : List Int) : PCall Try.prog 28 [rowA m b] (.tup [eqA m (pad b), .d (bo (fine m b))]) := by
  refine PCall.ofFn (n := 100) (u := true) mixed CallsOk.nil SCallsOk.nil Try.func28 (by rfl) (by rfl) fun Ev bb => ?_
  rw [rowA, f28_nf]
  refine ⟨_, _, _, _, _, _, _, _, _, _, _, _, _, _, _, _, pad_cells b _, BIf.of (fun h1 => BIf.of (fun h2 => ?_) fun h2 => ?_) fun h1 => ?_⟩
  · have : fine m b = ((b.length : Int) == 16) := by simp [fine, h1, h2]
    rw [this]; simp [bytesR]; rfl
  · have : fine m b = false := by simp [fine, h2]
    rw [this]; rfl
  · have : fine m b = false := by simp [fine, h1]
    rw [this]; rfl
def c28 (args : List AV) (K : AV → Prop) : Prop := ∃ (m : Int) (b : List Int), args = [rowA m b] ∧ K (.tup [eqA m (pad b), .d (bo (fine m b))])
theorem c28_ok : ∀ args K, c28 args K → ∃ x, PCall Try.prog 28 args x ∧ K x := by
  rintro _ K ⟨m, p, rfl, h⟩; exact ⟨_, pc28 m p, h⟩

end Go.Proofs.Ytgdeoaiakdkhcaa.Am
