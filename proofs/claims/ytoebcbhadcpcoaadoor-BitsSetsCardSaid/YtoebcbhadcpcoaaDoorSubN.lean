/- The sets of a mask as numbers: the k-th one lays the bits of k at the places of the mask. -/
import Derived.Test.YtoebcbhadcpcoaaDoorBitC
namespace Go.Proofs.YtoebcbhadcpcoaaDoor.B
open Go
set_option linter.unusedVariables false
set_option linter.unusedSimpArgs false
def spr : Nat → Nat → Nat → Nat
  | 0, _, _ => 0
  | n + 1, m, k => if m % 2 = 1 then k % 2 + 2 * spr n (m / 2) (k / 2) else 2 * spr n (m / 2) k
theorem spr_zero : ∀ n m, spr n m 0 = 0
  | 0, _ => rfl
  | n + 1, m => by
    unfold spr
    rw [show 0 / 2 = 0 from rfl, spr_zero n]
    split <;> rfl
theorem spr_le : ∀ n m k, m < 2 ^ n → spr n m k ≤ m
  | 0, m, k, h => Nat.zero_le _
  | n + 1, m, k, h => by
    have h2 : m / 2 < 2 ^ n := by rw [Nat.pow_succ] at h; omega
    unfold spr
    split
    · have := spr_le n (m / 2) (k / 2) h2
      omega
    · have := spr_le n (m / 2) k h2
      omega
theorem and_dbl (a b r s : Nat) (hr : r < 2) (hs : s < 2) : (2 * a + r) &&& (2 * b + s) = 2 * (a &&& b) + (r &&& s) := by
  have h1 : ((2 * a + r) &&& (2 * b + s)) / 2 = a &&& b := by
    rw [show (2 : Nat) = 2 ^ 1 from rfl, Nat.and_div_two_pow]
    congr 1 <;> omega
  have h2 : ((2 * a + r) &&& (2 * b + s)) % 2 = r &&& s := by
    rw [show (2 : Nat) = 2 ^ 1 from rfl, Nat.and_mod_two_pow]
    congr 1 <;> omega
  omega
theorem spr_keep : ∀ n m k, m < 2 ^ n → (spr n m k + (2 ^ n - 1 - m)) &&& m = spr n m k
  | 0, m, k, h => by
    obtain rfl : m = 0 := by simpa using h
    simp [spr]
  | n + 1, m, k, h => by
    have hp : 2 ^ (n + 1) = 2 * 2 ^ n := by rw [Nat.pow_succ, Nat.mul_comm]
    have h2 : m / 2 < 2 ^ n := by omega
    unfold spr
    by_cases hb : m % 2 = 1
    · rw [if_pos hb]
      have ih := spr_keep n (m / 2) (k / 2) h2
      have e1 : k % 2 + 2 * spr n (m / 2) (k / 2) + (2 ^ (n + 1) - 1 - m) = 2 * (spr n (m / 2) (k / 2) + (2 ^ n - 1 - m / 2)) + k % 2 := by omega
      have e2 : m = 2 * (m / 2) + 1 := by omega
      rw [e1]
      have := and_dbl (spr n (m / 2) (k / 2) + (2 ^ n - 1 - m / 2)) (m / 2) (k % 2) 1 (by omega) (by omega)
      rw [← e2, ih] at this
      rw [this]
      have hk : k % 2 &&& 1 = k % 2 := by rcases Nat.mod_two_eq_zero_or_one k with h | h <;> rw [h] <;> rfl
      rw [hk]
      omega
    · rw [if_neg hb]
      have ih := spr_keep n (m / 2) k h2
      have e1 : 2 * spr n (m / 2) k + (2 ^ (n + 1) - 1 - m) = 2 * (spr n (m / 2) k + (2 ^ n - 1 - m / 2)) + 1 := by omega
      have e2 : m = 2 * (m / 2) + 0 := by omega
      rw [e1]
      have := and_dbl (spr n (m / 2) k + (2 ^ n - 1 - m / 2)) (m / 2) 1 0 (by omega) (by omega)
      rw [← e2, ih] at this
      rw [this]
      rfl
theorem spr_next : ∀ n m k, m < 2 ^ n → (spr n m k + (2 ^ n - m)) &&& m = spr n m (k + 1)
  | 0, m, k, h => by
    obtain rfl : m = 0 := by simpa using h
    simp [spr]
  | n + 1, m, k, h => by
    have hp : 2 ^ (n + 1) = 2 * 2 ^ n := by rw [Nat.pow_succ, Nat.mul_comm]
    have h2 : m / 2 < 2 ^ n := by omega
    unfold spr
    by_cases hb : m % 2 = 1
    · rw [if_pos hb, if_pos hb]
      have e2 : m = 2 * (m / 2) + 1 := by omega
      by_cases hk : k % 2 = 1
      · have ih := spr_next n (m / 2) (k / 2) h2
        have e1 : k % 2 + 2 * spr n (m / 2) (k / 2) + (2 ^ (n + 1) - m) = 2 * (spr n (m / 2) (k / 2) + (2 ^ n - m / 2)) + 0 := by omega
        rw [e1]
        have := and_dbl (spr n (m / 2) (k / 2) + (2 ^ n - m / 2)) (m / 2) 0 1 (by omega) (by omega)
        rw [← e2, ih] at this
        rw [this, show (k + 1) % 2 = 0 by omega, show (k + 1) / 2 = k / 2 + 1 by omega]
        show 2 * _ + 0 = 0 + 2 * _
        omega
      · have ih := spr_keep n (m / 2) (k / 2) h2
        have e1 : k % 2 + 2 * spr n (m / 2) (k / 2) + (2 ^ (n + 1) - m) = 2 * (spr n (m / 2) (k / 2) + (2 ^ n - 1 - m / 2)) + 1 := by omega
        rw [e1]
        have := and_dbl (spr n (m / 2) (k / 2) + (2 ^ n - 1 - m / 2)) (m / 2) 1 1 (by omega) (by omega)
        rw [← e2, ih] at this
        rw [this, show (k + 1) % 2 = 1 by omega, show (k + 1) / 2 = k / 2 by omega]
        show 2 * _ + 1 = 1 + 2 * _
        omega
    · rw [if_neg hb, if_neg hb]
      have ih := spr_next n (m / 2) k h2
      have e1 : 2 * spr n (m / 2) k + (2 ^ (n + 1) - m) = 2 * (spr n (m / 2) k + (2 ^ n - m / 2)) + 0 := by omega
      have e2 : m = 2 * (m / 2) + 0 := by omega
      rw [e1]
      have := and_dbl (spr n (m / 2) k + (2 ^ n - m / 2)) (m / 2) 0 0 (by omega) (by omega)
      rw [← e2, ih] at this
      rw [this]
      rfl
theorem spr_last : ∀ n m k, m < 2 ^ n → k < 2 ^ pc n m → (spr n m k = m ↔ k + 1 = 2 ^ pc n m)
  | 0, m, k, h, hk => by
    obtain rfl : m = 0 := by simpa using h
    obtain rfl : k = 0 := by simpa [pc] using hk
    simp [spr, pc]
  | n + 1, m, k, h, hk => by
    have hp : 2 ^ (n + 1) = 2 * 2 ^ n := by rw [Nat.pow_succ, Nat.mul_comm]
    have h2 : m / 2 < 2 ^ n := by omega
    have hpc : pc (n + 1) m = m % 2 + pc n (m / 2) := rfl
    unfold spr
    by_cases hb : m % 2 = 1
    · rw [if_pos hb]
      have hq : 2 ^ pc (n + 1) m = 2 * 2 ^ pc n (m / 2) := by rw [hpc, hb, Nat.add_comm, Nat.pow_succ, Nat.mul_comm]
      rw [hq] at hk ⊢
      have ih := spr_last n (m / 2) (k / 2) h2 (by omega)
      constructor
      · intro e
        have := ih.1 (by omega)
        omega
      · intro e
        have := ih.2 (by omega)
        omega
    · rw [if_neg hb]
      have hq : 2 ^ pc (n + 1) m = 2 ^ pc n (m / 2) := by rw [hpc, show m % 2 = 0 by omega, Nat.zero_add]
      rw [hq] at hk ⊢
      have ih := spr_last n (m / 2) k h2 hk
      rw [← ih]
      omega
/-- The places of a mask's ones, from o on. -/
def pl : Nat → Nat → Nat → List Nat
  | 0, _, _ => []
  | n + 1, m, o => if m % 2 = 1 then o :: pl n (m / 2) (o + 1) else pl n (m / 2) (o + 1)
def val : List Nat → Nat → Nat
  | [], _ => 0
  | p :: ps, k => k % 2 * 2 ^ p + val ps (k / 2)
theorem val_pl : ∀ n m o k, val (pl n m o) k = 2 ^ o * spr n m k
  | 0, _, _, _ => by simp [pl, val, spr]
  | n + 1, m, o, k => by
    unfold pl spr
    by_cases hb : m % 2 = 1
    · rw [if_pos hb, if_pos hb, val, val_pl n, Nat.pow_succ, Nat.mul_add, Nat.mul_comm (k % 2)]
      rw [Nat.mul_assoc]
    · rw [if_neg hb, if_neg hb, val_pl n, Nat.pow_succ, Nat.mul_assoc]
theorem pl_length : ∀ n m o, (pl n m o).length = pc n m
  | 0, _, _ => rfl
  | n + 1, m, o => by
    have hpc : pc (n + 1) m = m % 2 + pc n (m / 2) := rfl
    unfold pl
    by_cases hb : m % 2 = 1
    · rw [if_pos hb, List.length_cons, pl_length n, hpc, hb, Nat.add_comm]
    · rw [if_neg hb, pl_length n, hpc, show m % 2 = 0 by omega, Nat.zero_add]
theorem pl_mem : ∀ n m o p, p ∈ pl n m o → o ≤ p ∧ p < o + n
  | 0, _, _, _, h => by cases h
  | n + 1, m, o, p, h => by
    unfold pl at h
    split at h
    · rcases List.mem_cons.1 h with rfl | h
      · omega
      · have := pl_mem n (m / 2) (o + 1) p h
        omega
    · have := pl_mem n (m / 2) (o + 1) p h
      omega
theorem pl_sorted : ∀ n m o, (pl n m o).Pairwise (· < ·)
  | 0, _, _ => List.Pairwise.nil
  | n + 1, m, o => by
    unfold pl
    split
    · refine List.pairwise_cons.2 ⟨fun p hp => ?_, pl_sorted n (m / 2) (o + 1)⟩
      have := pl_mem n (m / 2) (o + 1) p hp
      omega
    · exact pl_sorted n (m / 2) (o + 1)
theorem pl_filter : ∀ n m o, pl n m o = ((List.range n).filter (fun i => m.testBit i)).map (fun i => i + o)
  | 0, _, _ => rfl
  | n + 1, m, o => by
    have e : ((List.range n).map Nat.succ).filter (fun i => m.testBit i) = ((List.range n).filter (fun i => (m / 2).testBit i)).map Nat.succ := by
      rw [List.filter_map]
      congr 1
      refine List.filter_congr (fun i _ => ?_)
      simp only [Function.comp]
      exact Nat.testBit_succ m i
    have e2 : (((List.range n).filter (fun i => (m / 2).testBit i)).map Nat.succ).map (fun i => i + o) = pl n (m / 2) (o + 1) := by
      rw [pl_filter n (m / 2) (o + 1), List.map_map]
      refine List.map_congr_left (fun i _ => ?_)
      simp only [Function.comp]
      omega
    have hb0 : m.testBit 0 = decide (m % 2 = 1) := Nat.testBit_zero m
    unfold pl
    rw [List.range_succ_eq_map, List.filter_cons, hb0, e]
    by_cases hb : m % 2 = 1
    · rw [if_pos hb, decide_eq_true hb, if_pos rfl, List.map_cons, e2, Nat.zero_add]
    · rw [if_neg hb, decide_eq_false hb, if_neg (by simp), e2]
/- The ones, counted one by one. -/
def pcs : Nat → Nat → Nat
  | 0, _ => 0
  | n + 1, x => pcs n x + (if x.testBit n then 1 else 0)
theorem pcs_low : ∀ n x, pcs (n + 1) x = (if x.testBit 0 then 1 else 0) + pcs n (x / 2)
  | 0, x => by simp [pcs]
  | n + 1, x => by
    have h : pcs (n + 1 + 1) x = pcs (n + 1) x + (if x.testBit (n + 1) then 1 else 0) := rfl
    have h2 : pcs (n + 1) (x / 2) = pcs n (x / 2) + (if (x / 2).testBit n then 1 else 0) := rfl
    rw [h, pcs_low n x, h2, Nat.testBit_succ]
    omega
theorem pc_pcs : ∀ n x, pc n x = pcs n x
  | 0, x => rfl
  | n + 1, x => by
    have h : pc (n + 1) x = x % 2 + pc n (x / 2) := rfl
    rw [h, pcs_low, pc_pcs n]
    congr 1
    rw [Nat.testBit_zero]
    have := Nat.mod_lt x (show 2 > 0 by decide)
    by_cases h : x % 2 = 1
    · simp [h]
    · have : x % 2 = 0 := by omega
      simp [this]
theorem pcs_le : ∀ n x, pcs n x ≤ n
  | 0, _ => Nat.le_refl _
  | n + 1, x => by
    have := pcs_le n x
    have h : pcs (n + 1) x = pcs n x + (if x.testBit n then 1 else 0) := rfl
    rw [h]
    split <;> omega
end Go.Proofs.YtoebcbhadcpcoaaDoor.B
