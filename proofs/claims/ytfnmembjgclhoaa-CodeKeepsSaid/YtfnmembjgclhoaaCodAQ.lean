/- The answers at the other named codes. -/
import Derived.Test.YtfnmembjgclhoaaCodAF
namespace Go.Proofs.Ytfnmembjgclhoaa.CD
open Go Go.RowKit
set_option linter.unusedVariables false
set_option linter.unusedSimpArgs false
open B (pcs ofB)

theorem phase3_lit (g gk x xk z zk : Nat) : codeOf 3 phase3G phase3X phase3Z g gk x xk z zk = ⟨3, some ⟨g, 0, none⟩, gk, [⟨3, 3, 0, 0⟩, ⟨3, 6, 0, 0⟩], some ⟨x, 0, none⟩, xk, [⟨3, 0, 7, 0⟩], some ⟨z, 0, none⟩, zk, [⟨3, 1, 0, 0⟩]⟩ := by kernel_rfl
theorem phase3_good (g gk x xk z zk : Nat) : Good (codeOf 3 phase3G phase3X phase3Z g gk x xk z zk) := by
  rw [phase3_lit]
  exact good_of (by kernel_rfl)
theorem phase3_dist (g gk x xk z zk : Nat) : distV (codeOf 3 phase3G phase3X phase3Z g gk x xk z zk) = 1 := by
  have hg := phase3_good g gk x xk z zk
  rw [phase3_lit] at hg ⊢
  exact distV_eq hg (show (3 : Int) ≤ 8 by decide) (dist_by (d := 1) (x0 := 1) (z0 := 0) (show (3 : Int) ≤ 8 by decide) (show 1 < 2 ^ 3 by decide) (show 0 < 2 ^ 3 by decide) (by kernel_rfl) (by kernel_rfl) (by kernel_rfl))
theorem five_lit (g gk x xk z zk : Nat) : codeOf 5 fiveG fiveX fiveZ g gk x xk z zk = ⟨5, some ⟨g, 0, none⟩, gk, [⟨5, 9, 6, 0⟩, ⟨5, 18, 12, 0⟩, ⟨5, 5, 24, 0⟩, ⟨5, 10, 17, 0⟩], some ⟨x, 0, none⟩, xk, [⟨5, 31, 0, 0⟩], some ⟨z, 0, none⟩, zk, [⟨5, 0, 31, 0⟩]⟩ := by kernel_rfl
theorem five_good (g gk x xk z zk : Nat) : Good (codeOf 5 fiveG fiveX fiveZ g gk x xk z zk) := by
  rw [five_lit]
  exact good_of (by kernel_rfl)
theorem five_dist (g gk x xk z zk : Nat) : distV (codeOf 5 fiveG fiveX fiveZ g gk x xk z zk) = 3 := by
  have hg := five_good g gk x xk z zk
  rw [five_lit] at hg ⊢
  exact distV_eq hg (show (5 : Int) ≤ 8 by decide) (dist_by (d := 3) (x0 := 1) (z0 := 13) (show (5 : Int) ≤ 8 by decide) (show 1 < 2 ^ 5 by decide) (show 13 < 2 ^ 5 by decide) (by kernel_rfl) (by kernel_rfl) (by kernel_rfl))
theorem steane_lit (g gk x xk z zk : Nat) : codeOf 7 steaneG steaneX steaneZ g gk x xk z zk = ⟨7, some ⟨g, 0, none⟩, gk, [⟨7, 120, 0, 0⟩, ⟨7, 102, 0, 0⟩, ⟨7, 85, 0, 0⟩, ⟨7, 0, 120, 0⟩, ⟨7, 0, 102, 0⟩, ⟨7, 0, 85, 0⟩], some ⟨x, 0, none⟩, xk, [⟨7, 127, 0, 0⟩], some ⟨z, 0, none⟩, zk, [⟨7, 0, 127, 0⟩]⟩ := by kernel_rfl
theorem steane_good (g gk x xk z zk : Nat) : Good (codeOf 7 steaneG steaneX steaneZ g gk x xk z zk) := by
  rw [steane_lit]
  exact good_of (by kernel_rfl)
theorem steane_dist (g gk x xk z zk : Nat) : distV (codeOf 7 steaneG steaneX steaneZ g gk x xk z zk) = 3 := by
  have hg := steane_good g gk x xk z zk
  rw [steane_lit] at hg ⊢
  exact distV_eq hg (show (7 : Int) ≤ 8 by decide) (dist_by (d := 3) (x0 := 0) (z0 := 7) (show (7 : Int) ≤ 8 by decide) (show 0 < 2 ^ 7 by decide) (show 7 < 2 ^ 7 by decide) (by kernel_rfl) (by kernel_rfl) (by kernel_rfl))
end Go.Proofs.Ytfnmembjgclhoaa.CD
