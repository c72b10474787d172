/- The answers at bit3. -/
import Derived.Test.YtfnmembjgclhoaaCodAC
import Derived.Test.YtfnmembjgclhoaaCodAE
import Derived.KernelRfl
namespace Go.Proofs.Ytfnmembjgclhoaa.CD
open Go Go.RowKit
set_option linter.unusedVariables false
set_option linter.unusedSimpArgs false
open B (pcs ofB)

theorem own_row {W : World} {B g k : Nat} {ps : List Pau} (h : Fresh W B g k ps) (hw : ∀ p ∈ ps, WF p) (hs : ps.length ≤ 4398046511104) : Row W (some ⟨g, 0, none⟩) k ps := by
  have hr := RowsP.of_own rfl h.own
  refine ⟨?_, ?_, hs, hw, .inr ⟨g, 0, rfl, fun j hj => by rw [Nat.zero_add]; exact hr.at_ j hj⟩⟩
  · rcases h.own.2 with ⟨h1, _⟩ | ⟨g', k', cur, h1, _, _, h2, h3, _⟩
    · cases h1
    · cases h1; exact h2
  · rcases h.own.2 with ⟨h1, _⟩ | ⟨g', k', cur, h1, _, _, h2, h3, _⟩
    · cases h1
    · cases h1; unfold maxLen at h3; omega
def codeOf (n : Int) (G X Z : List ByteArray) (g gk x xk z zk : Nat) : Cod := ⟨n, some ⟨g, 0, none⟩, gk, G.map spell, some ⟨x, 0, none⟩, xk, X.map spell, some ⟨z, 0, none⟩, zk, Z.map spell⟩
theorem spell_wf {s : ByteArray} (h : s.size ≤ 64) : WF (spell s) := by
  refine ⟨ofB_U _ h, ofB_U _ h, ?_, ?_⟩
  · unfold I64 spell; simp only; omega
  · unfold I64 spell; simp only; omega
theorem Made.code {w W : World} {n : Int} {G X Z : List ByteArray} {g gk x xk z zk : Nat} (h : Made w n G X Z g gk x xk z zk W) (hn : I64 n) (hG : G.length ≤ 64 ∧ ∀ s ∈ G, s.size ≤ 64) (hX : X.length ≤ 64 ∧ ∀ s ∈ X, s.size ≤ 64) (hZ : Z.length ≤ 64 ∧ ∀ s ∈ Z, s.size ≤ 64) : CodAt W (codeOf n G X Z g gk x xk z zk) := by
  have hw : ∀ L : List ByteArray, (∀ s ∈ L, s.size ≤ 64) → ∀ p ∈ L.map spell, WF p := fun L hL p hp => by
    obtain ⟨s, hs, rfl⟩ := List.mem_map.1 hp
    exact spell_wf (hL s hs)
  have hs : ∀ L : List ByteArray, L.length ≤ 64 → (L.map spell).length ≤ 4398046511104 := fun L hL => by rw [List.length_map]; omega
  exact ⟨hn, own_row h.fg (hw G hG.2) (hs G hG.1), own_row h.fx (hw X hX.2) (hs X hX.1), own_row h.fz (hw Z hZ.2) (hs Z hZ.1)⟩
theorem bit3_good (g gk x xk z zk : Nat) : Good (codeOf 3 bit3G bit3X bit3Z g gk x xk z zk) := good_of (by kernel_rfl)
theorem bit3_dist (g gk x xk z zk : Nat) : distV (codeOf 3 bit3G bit3X bit3Z g gk x xk z zk) = 1 :=
  distV_eq (bit3_good ..) (show (3 : Int) ≤ 8 by decide) (dist_by (d := 1) (x0 := 0) (z0 := 1) (show (3 : Int) ≤ 8 by decide) (show 0 < 2 ^ 3 by decide) (show 1 < 2 ^ 3 by decide) (by kernel_rfl) (by kernel_rfl) (by kernel_rfl))
theorem bit3_dec (g gk x xk z zk : Nat) : decE (codeOf 3 bit3G bit3X bit3Z g gk x xk z zk) 2 = 0 ∧ decV (codeOf 3 bit3G bit3X bit3Z g gk x xk z zk) 2 = ⟨3, 4, 0, 0⟩ := by
  have he : decE (codeOf 3 bit3G bit3X bit3Z g gk x xk z zk) 2 = 0 := by
    unfold decE
    have h8 : (codeOf 3 bit3G bit3X bit3Z g gk x xk z zk).n ≤ 8 := show (3 : Int) ≤ 8 by decide
    have h4 : 2 < 2 ^ (codeOf 3 bit3G bit3X bit3Z g gk x xk z zk).gs.length := show 2 < 2 ^ 2 by decide
    rw [if_pos (bit3_good ..), if_pos h8, if_pos h4]
  exact ⟨he, decV_eq he (dec_by (show (3 : Int) ≤ 8 by decide) (show 4 < 2 ^ 3 by decide) (show 0 < 2 ^ 3 by decide) (by kernel_rfl) (by kernel_rfl))⟩
theorem bit3_err2 (g gk x xk z zk : Nat) (p : Pau) (hp : okB p = true) (hn : p.n = 3) : err2 (codeOf 3 bit3G bit3X bit3Z g gk x xk z zk) p = 0 := by
  have hn' : p.n = (codeOf 3 bit3G bit3X bit3Z g gk x xk z zk).n := hn
  unfold err2
  rw [if_pos (bit3_good ..), if_pos (okB_ok hp), if_pos hn']
theorem bit3_syn (g gk x xk z zk : Nat) : synV (codeOf 3 bit3G bit3X bit3Z g gk x xk z zk) ⟨3, 2, 0, 0⟩ = 3 := by
  unfold synV
  rw [if_pos (bit3_err2 _ _ _ _ _ _ _ (by decide) rfl)]
  kernel_rfl
theorem bit3_log (g gk x xk z zk : Nat) : logE (codeOf 3 bit3G bit3X bit3Z g gk x xk z zk) ⟨3, 0, 1, 0⟩ = 0 ∧ logV (codeOf 3 bit3G bit3X bit3Z g gk x xk z zk) ⟨3, 0, 1, 0⟩ = ⟨1, 0, 1, 0⟩ := by
  have h1 := bit3_err2 g gk x xk z zk ⟨3, 0, 1, 0⟩ (by decide) rfl
  have h2 : synd (codeOf 3 bit3G bit3X bit3Z g gk x xk z zk).gs ⟨3, 0, 1, 0⟩ = 0 := by kernel_rfl
  refine ⟨by unfold logE; rw [if_pos h1, if_pos h2], ?_⟩
  unfold logV
  rw [if_pos ⟨h1, h2⟩]
  kernel_rfl
end Go.Proofs.Ytfnmembjgclhoaa.CD
