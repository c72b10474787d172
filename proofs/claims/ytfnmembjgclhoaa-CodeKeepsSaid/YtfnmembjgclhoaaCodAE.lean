/- Distances and decodings by reckoning. -/
import Derived.Test.YtfnmembjgclhoaaCodZ
import Derived.Test.YtfnmembjgclhoaaCodAD
namespace Go.Proofs.Ytfnmembjgclhoaa.CD
open Go Go.RowKit
set_option linter.unusedVariables false
set_option linter.unusedSimpArgs false
open B (pcs ofB)

theorem wt8 {x z : Nat} (hx : x < 256) (hz : z < 256) : wt x z = pcs 8 (x ||| z) := by
  have h := Nat.or_lt_two_pow (n := 8) hx hz
  unfold wt pop
  exact B.pcs_stop h (by omega)
/-- No pair of T weighs less than d. -/
def loB (T : Nat → Nat → Bool) (N d : Nat) : Bool := (List.range N).all fun x => (List.range N).all fun z => (d ≤ pcs 8 (x ||| z) : Bool) || !T x z
theorem loB_lo {T : Nat → Nat → Bool} {N d : Nat} (hN : N ≤ 256) (h : loB T N d = true) (x z : Nat) (hx : x < N) (hz : z < N) (hT : T x z = true) : d ≤ wt x z := by
  have h1 := List.all_eq_true.1 (List.all_eq_true.1 h x (List.mem_range.2 hx)) z (List.mem_range.2 hz)
  rw [wt8 (by omega) (by omega)]
  simpa [hT] using h1
theorem dist_by {c : Cod} {d x0 z0 : Nat} (h8 : c.n ≤ 8) (hx : x0 < nn c) (hz : z0 < nn c) (hT : TD c x0 z0 = true) (hw : wt x0 z0 = d) (h : loB (TD c) (nn c) d = true) : IsDist c d := by
  have hN := nn_le h8
  obtain ⟨x, z, hf⟩ := first_of hx hz hT
  refine .inl ⟨x, z, hf, ?_⟩
  have h1 := loB_lo hN h x z hf.xlt hf.zlt hf.yes
  have h2 := hf.first x0 hx z0 hz hT
  have : d = wt x z := by omega
  rw [this]
/-- (x0, z0) is T's first. -/
def firstB (T : Nat → Nat → Bool) (N x0 z0 : Nat) : Bool := (List.range N).all fun x => (List.range N).all fun z => !T x z || (decide (pcs 8 (x0 ||| z0) < pcs 8 (x ||| z)) || (decide (pcs 8 (x0 ||| z0) = pcs 8 (x ||| z)) && (decide (x0 < x) || (decide (x0 = x) && decide (z0 ≤ z)))))
theorem dec_by {c : Cod} {s x0 z0 : Nat} (h8 : c.n ≤ 8) (hx : x0 < nn c) (hz : z0 < nn c) (hT : TS c s x0 z0 = true) (h : firstB (TS c s) (nn c) x0 z0 = true) : IsDec c s ⟨c.n, x0, z0, 0⟩ := by
  have hN := nn_le h8
  refine .inl ⟨x0, z0, ⟨hx, hz, hT, fun x hx' z hz' hT' => ?_⟩, rfl⟩
  have h1 := List.all_eq_true.1 (List.all_eq_true.1 h x (List.mem_range.2 hx')) z (List.mem_range.2 hz')
  rw [wt8 (by omega) (by omega), wt8 (by omega) (by omega)]
  simp only [hT', Bool.not_true, Bool.false_or, Bool.or_eq_true, Bool.and_eq_true, decide_eq_true_eq] at h1
  exact h1
end Go.Proofs.Ytfnmembjgclhoaa.CD
