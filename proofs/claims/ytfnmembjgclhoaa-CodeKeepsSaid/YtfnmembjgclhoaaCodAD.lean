/- Codes by reckoning. -/
import Derived.Test.YtfnmembjgclhoaaCodH
namespace Go.Proofs.Ytfnmembjgclhoaa.CD
open Go Go.RowKit
set_option linter.unusedVariables false
set_option linter.unusedSimpArgs false

def okB (p : Pau) : Bool := decide (0 ≤ p.n) && (decide (p.n ≤ 64) && (decide (0 ≤ p.ph) && (decide (p.ph ≤ 3) && (decide (p.x < 2 ^ p.n.toNat) && decide (p.z < 2 ^ p.n.toNat)))))
theorem okB_ok {p : Pau} (h : okB p = true) : Ok p := by
  simp only [okB, Bool.and_eq_true, decide_eq_true_eq] at h
  exact ⟨h.1, h.2.1, h.2.2.1, h.2.2.2.1, h.2.2.2.2.1, h.2.2.2.2.2⟩
def fitB (n : Int) (p : Pau) : Bool := okB p && (decide (p.n = n) && decide (p.ph % 2 = 0))
theorem fitB_fit {p : Pau} {n : Int} (h : fitB n p = true) : Fit p n := by
  simp only [fitB, Bool.and_eq_true, decide_eq_true_eq] at h
  exact ⟨okB_ok h.1, h.2.1, h.2.2⟩
def elimN : Nat → List Rw → Bool
  | 0, _ => false
  | k + 1, [] => false
  | k + 1, r :: t => if r = (0, 0) then true else elimN k (t.map (clear r))
theorem elimN_eq : ∀ (k : Nat) (l : List Rw), l.length ≤ k → elimN k l = elim l
  | 0, [], _ => by simp [elimN, elim]
  | k + 1, [], _ => by simp [elimN, elim]
  | k + 1, r :: t, h => by
    rw [elimN, elim]
    split
    · rfl
    · exact elimN_eq k _ (by simpa using h)
def clean (a b : List Pau) : Bool := a.all fun p => b.all fun q => !apt p q
theorem clean_all {a b : List Pau} (h : clean a b = true) : ∀ p ∈ a, ∀ q ∈ b, apt p q = false := fun p hp q hq => by
  have h1 := List.all_eq_true.1 (List.all_eq_true.1 h p hp) q hq
  simpa using h1
def paired (xs zs : List Pau) : Bool := (List.range xs.length).all fun i => (List.range zs.length).all fun j => match xs[i]?, zs[j]? with
  | some p, some q => apt p q == decide (i = j)
  | _, _ => false
theorem paired_all {xs zs : List Pau} (h : paired xs zs = true) (i : Nat) (hi : i < xs.length) (j : Nat) (hj : j < zs.length) : apt xs[i] zs[j] = decide (i = j) := by
  have h1 := List.all_eq_true.1 (List.all_eq_true.1 h i (List.mem_range.2 hi)) j (List.mem_range.2 hj)
  simpa [hi, hj] using h1
def goodB (n : Int) (gs xs zs : List Pau) : Bool :=
  decide (1 ≤ n) && (decide (n ≤ 64) && (decide ((gs.length : Int) + xs.length = n) && (decide (zs.length = xs.length) && (gs.all (fitB n) && (xs.all (fitB n) && (zs.all (fitB n) &&
    (clean gs gs && (clean gs xs && (clean gs zs && (clean xs xs && (clean zs zs && (paired xs zs && !elimN gs.length (gs.map xz)))))))))))))
theorem good_of {c : Cod} (h : goodB c.n c.gs c.xs c.zs = true) : Good c := by
  simp only [goodB, Bool.and_eq_true, decide_eq_true_eq] at h
  obtain ⟨h1, h2, h3, h4, h5, h6, h7, h8, h9, h10, h11, h12, h13, h14⟩ := h
  refine ⟨h1, h2, h3, h4, fun p hp => fitB_fit (List.all_eq_true.1 h5 p hp), fun p hp => fitB_fit (List.all_eq_true.1 h6 p hp), fun p hp => fitB_fit (List.all_eq_true.1 h7 p hp), clean_all h8, clean_all h9, clean_all h10, clean_all h11, clean_all h12, paired_all h13, ?_⟩
  rw [elimN_eq _ _ (by simp)] at h14
  simpa using h14
end Go.Proofs.Ytfnmembjgclhoaa.CD
