/- Doubles that stand for whole numbers below 2^53: sums, differences, products and comparisons are exact. -/
import GoSem.Core.Float
namespace Go.Proofs.YtlobgpgdknjhlaaGreat.F
open Ieee
set_option linter.unusedVariables false
set_option linter.unusedSimpArgs false
def sg (s : Bool) (m : Nat) : Int := if s then -(m : Int) else (m : Int)
theorem sg_natAbs (s : Bool) (m : Nat) : (sg s m).natAbs = m := by
  unfold sg
  cases s <;> simp
theorem sg_zero (s : Bool) : sg s 0 = 0 := by
  unfold sg
  cases s <;> rfl
theorem sg_mul (s t : Bool) (m n : Nat) : sg (s ^^ t) (m * n) = sg s m * sg t n := by
  unfold sg
  cases s <;> cases t <;> simp [Int.neg_mul, Int.mul_neg]
theorem sg_mulr (s : Bool) (m k : Nat) : sg s (m * k) = sg s m * (k : Int) := by
  unfold sg
  cases s <;> simp [Int.neg_mul]
theorem sg_opp (s : Bool) (m : Nat) : sg (!s) m = -sg s m := by
  unfold sg
  cases s <;> simp
theorem signed_eq (s : Bool) (m up : Nat) : signed s m up = sg s m * ((2 ^ up : Nat) : Int) := by
  unfold signed sg
  cases s <;> simp [Nat.shiftLeft_eq, Int.neg_mul]
/-- THE WORD x STANDS FOR THE WHOLE NUMBER z. -/
def Rep (x : Nat) (z : Int) : Prop := ∃ (s : Bool) (m p : Nat), double.read x = .number s m (-(p : Int)) ∧ sg s m = z * ((2 ^ p : Nat) : Int)
theorem bin_d : double.binade = 2 ^ 52 := rfl
theorem sw_d : double.signWeight = 2 ^ 63 := rfl
theorem inf_d : double.infRung = 2047 * 2 ^ 52 := by unfold Format.infRung; rw [bin_d]; rfl
theorem lp_d : double.leastPlace = -1074 := by decide
theorem read_word (s : Bool) (rung : Nat) (h0 : 2 ^ 52 ≤ rung) (h1 : rung < 2047 * 2 ^ 52) :
    double.read (double.word s rung) = .number s (2 ^ 52 + rung % 2 ^ 52) (-1074 + ((rung / 2 ^ 52 - 1 : Nat) : Int)) := by
  unfold Format.read Format.word
  rw [sw_d, bin_d, inf_d, lp_d]
  have hlt : rung < 2 ^ 63 := by omega
  cases s with
  | true =>
    have e1 : (2 ^ 63 + rung) % 2 ^ 63 = rung := by omega
    have e2 : (2 ^ 63 + rung) / 2 ^ 63 = 1 := by omega
    simp only [if_true]
    rw [e1, e2, if_neg (by omega), if_pos h1]
    rfl
  | false =>
    have e1 : rung % 2 ^ 63 = rung := by omega
    have e2 : rung / 2 ^ 63 = 0 := by omega
    simp only [Bool.false_eq_true, if_false]
    rw [e1, e2, if_neg (by omega), if_pos h1]
    rfl
theorem read_zero (s : Bool) : double.read (double.word s 0) = .number s 0 (-1074) := by cases s <;> decide +kernel
theorem cut_exact (s : Bool) (n drop q : Nat) (h : n = q * 2 ^ drop) (hq : 0 < q) : Toward.even.cut s n drop = q := by
  have hn : 0 < n := by rw [h]; exact Nat.mul_pos hq (Nat.two_pow_pos _)
  have hd : drop ≤ n.log2 := by
    rw [Nat.le_log2 (by omega), h]
    exact Nat.le_mul_of_pos_left _ hq
  have e : min drop (n.log2 + 2) = drop := Nat.min_eq_left (by omega)
  unfold Toward.cut
  have g : 1 <<< drop = 2 ^ drop := by rw [Nat.shiftLeft_eq, Nat.one_mul]
  have l : n / 2 ^ drop = q := by rw [h]; exact Nat.mul_div_cancel _ (Nat.two_pow_pos _)
  have r : n % 2 ^ drop = 0 := by rw [h]; exact Nat.mul_mod_left _ _
  simp only [e, g, l, r]
  have hp := Nat.two_pow_pos drop
  have h1 : (decide (2 ^ drop < 2 * 0)) = false := decide_eq_false (by omega)
  have h2 : (2 ^ drop == 2 * 0) = false := by rw [beq_eq_false_iff_ne]; omega
  simp [h1, h2]
theorem rungs (B q kp : Nat) (hB : 0 < B) (h1 : B ≤ kp) (h2 : kp < 2 * B) (hq : q + 2 ≤ 2047) : B + (q * B + kp) % B = kp ∧ (q * B + kp) / B = q + 1 ∧ B ≤ q * B + kp ∧ q * B + kp < 2047 * B := by
  obtain ⟨r, rfl⟩ : ∃ r, kp = B + r := ⟨kp - B, by omega⟩
  have hr : r < B := by omega
  have e : q * B + (B + r) = r + B * (q + 1) := by rw [Nat.mul_add, Nat.mul_one, Nat.mul_comm q B]; omega
  have h3 : B * (q + 2) ≤ 2047 * B := by rw [Nat.mul_comm 2047 B]; exact Nat.mul_le_mul_left B hq
  have h4 : B * (q + 2) = B * (q + 1) + B := by rw [show q + 2 = q + 1 + 1 from rfl, Nat.mul_add B (q + 1), Nat.mul_one]
  rw [e, Nat.add_mul_mod_self_left, Nat.mod_eq_of_lt hr, Nat.add_mul_div_left _ _ hB, Nat.div_eq_of_lt hr]
  have h5 : B ≤ B * (q + 1) := Nat.le_mul_of_pos_right _ (by omega)
  refine ⟨rfl, by omega, by omega, by omega⟩
/-- WHAT IS WRITTEN OF A WHOLE NUMBER BELOW 2^53 STANDS FOR IT. -/
theorem rep_write (s : Bool) (m p : Nat) (z : Int) (h : sg s m = z * ((2 ^ p : Nat) : Int)) (hz : z.natAbs < 2 ^ 53) : Rep (double.write (.number s m (-(p : Int)))) z := by
  have hm : m = z.natAbs * 2 ^ p := by
    have := congrArg Int.natAbs h
    rw [sg_natAbs, Int.natAbs_mul, Int.natAbs_natCast] at this
    exact this
  show Rep (double.nearest s m (-(p : Int))) z
  unfold Format.nearest
  by_cases h0 : m = 0
  · rw [if_pos h0]
    subst h0
    refine ⟨s, 0, 1074, read_zero s, ?_⟩
    rw [sg_zero] at h ⊢
    have hz0 : z = 0 := by
      rcases Int.mul_eq_zero.1 h.symm with h | h
      · exact h
      · have := Nat.two_pow_pos p
        omega
    rw [hz0, Int.zero_mul]
  · rw [if_neg h0]
    have ha : 0 < z.natAbs := by
      rcases Nat.eq_zero_or_pos z.natAbs with h | h
      · rw [h, Nat.zero_mul] at hm
        exact absurd hm h0
      · exact h
    obtain ⟨a, hza⟩ : ∃ a, z.natAbs = a := ⟨_, rfl⟩
    rw [hza] at hm hz ha
    obtain ⟨L, hL⟩ : ∃ L, a.log2 = L := ⟨_, rfl⟩
    have hL1 : 2 ^ L ≤ a := by rw [← hL]; exact Nat.log2_self_le (by omega)
    have hL2 : a < 2 ^ (L + 1) := by rw [← hL]; exact Nat.lt_log2_self
    have hL3 : L ≤ 52 := by
      rcases Nat.lt_or_ge 52 L with h | h
      · have := Nat.pow_le_pow_right (n := 2) (by decide) (show 53 ≤ L by omega)
        omega
      · exact h
    have hlog : m.log2 = L + p := by
      rw [hm, Nat.log2_eq_iff (by rw [← hm]; exact h0), Nat.pow_add, show L + p + 1 = (L + 1) + p by omega, Nat.pow_add 2 (L + 1)]
      exact ⟨Nat.mul_le_mul_right _ hL1, Nat.mul_lt_mul_of_pos_right hL2 (Nat.two_pow_pos _)⟩
    have hlast : max (-(p : Int) + ((m.log2 : Nat) : Int) - ((double.fractionBits : Nat) : Int)) double.leastPlace = (L : Int) - 52 := by
      rw [hlog, lp_d, show double.fractionBits = 52 from rfl]
      omega
    have hkept : Toward.even.cut s (m <<< (-(p : Int) - ((L : Int) - 52)).toNat) (((L : Int) - 52) - -(p : Int)).toNat = a * 2 ^ (52 - L) := by
      refine cut_exact s _ _ _ ?_ (Nat.mul_pos ha (Nat.two_pow_pos _))
      rw [Nat.shiftLeft_eq, hm]
      by_cases hp : p ≤ 52 - L
      · rw [show (-(p : Int) - ((L : Int) - 52)).toNat = 52 - L - p by omega, show (((L : Int) - 52) - -(p : Int)).toNat = 0 by omega, Nat.mul_assoc, ← Nat.pow_add, show p + (52 - L - p) = 52 - L by omega, Nat.pow_zero, Nat.mul_one]
      · rw [show (-(p : Int) - ((L : Int) - 52)).toNat = 0 by omega, show (((L : Int) - 52) - -(p : Int)).toNat = p - (52 - L) by omega, Nat.pow_zero, Nat.mul_one, Nat.mul_assoc, ← Nat.pow_add, show 52 - L + (p - (52 - L)) = p by omega]
    have hk1 : 2 ^ 52 ≤ a * 2 ^ (52 - L) := by
      have := Nat.mul_le_mul_right (2 ^ (52 - L)) hL1
      rw [← Nat.pow_add, show L + (52 - L) = 52 by omega] at this
      exact this
    have hk2 : a * 2 ^ (52 - L) < 2 ^ 53 := by
      have := Nat.mul_lt_mul_of_pos_right hL2 (Nat.two_pow_pos (52 - L))
      rw [← Nat.pow_add, show L + 1 + (52 - L) = 53 by omega] at this
      exact this
    simp only [hlast, hkept]
    obtain ⟨kp, hkp⟩ : ∃ kp, a * 2 ^ (52 - L) = kp := ⟨_, rfl⟩
    rw [hkp] at hk1 hk2 ⊢
    have hr : ((L : Int) - 52 - double.leastPlace).toNat = L + 1022 := by rw [lp_d]; omega
    rw [hr, bin_d, inf_d]
    obtain ⟨e1, e2, e3, e4⟩ := rungs (2 ^ 52) (L + 1022) kp (Nat.two_pow_pos _) hk1 (by rw [Nat.pow_succ] at hk2; omega) (by omega)
    rw [Nat.min_eq_left (Nat.le_of_lt e4)]
    refine ⟨s, kp, 52 - L, ?_, ?_⟩
    · have e5 : -1074 + ((L + 1022 + 1 - 1 : Nat) : Int) = -((52 - L : Nat) : Int) := by omega
      rw [read_word s _ e3 e4, e1, e2, e5]
    · have hsz : sg s a = z := by
        have h2 : sg s m = sg s a * ((2 ^ p : Nat) : Int) := by
          rw [hm, sg_mulr]
        rw [h2] at h
        exact Int.eq_of_mul_eq_mul_right (by have := Nat.two_pow_pos p; omega) h
      rw [← hkp, ← hsz, sg_mulr]
theorem rep_sum {x y : Nat} {a b : Int} (hx : Rep x a) (hy : Rep y b) (h : (a + b).natAbs < 2 ^ 53) : ∃ r, double.add x y = some r ∧ Rep r (a + b) := by
  obtain ⟨s, m, p, hr1, he1⟩ := hx
  obtain ⟨t, n, q, hr2, he2⟩ := hy
  obtain ⟨k, hk⟩ : ∃ k, max p q = k := ⟨_, rfl⟩
  have hb : min (-(p : Int)) (-(q : Int)) = -(k : Int) := by omega
  have t1 : (-(p : Int) - -(k : Int)).toNat = k - p := by omega
  have t2 : (-(q : Int) - -(k : Int)).toNat = k - q := by omega
  have htot : signed s m (k - p) + signed t n (k - q) = (a + b) * ((2 ^ k : Nat) : Int) := by
    rw [signed_eq, signed_eq, he1, he2, Int.mul_assoc, Int.mul_assoc, ← Int.natCast_mul, ← Int.natCast_mul, ← Nat.pow_add, ← Nat.pow_add, show p + (k - p) = k by omega, show q + (k - q) = k by omega, Int.add_mul]
  unfold Format.add
  rw [hr1, hr2]
  unfold Datum.sum
  simp only [hb, t1, t2, htot]
  refine ⟨_, rfl, rep_write _ _ k _ ?_ h⟩
  by_cases h0 : (a + b) * ((2 ^ k : Nat) : Int) = 0
  · rw [h0]
    exact sg_zero _
  · rw [if_neg h0]
    unfold sg
    by_cases hneg : (a + b) * ((2 ^ k : Nat) : Int) < 0
    · rw [decide_eq_true hneg, if_pos rfl]
      omega
    · rw [decide_eq_false hneg, if_neg (by simp)]
      omega
theorem rep_diff {x y : Nat} {a b : Int} (hx : Rep x a) (hy : Rep y b) (h : (a - b).natAbs < 2 ^ 53) : ∃ r, double.sub x y = some r ∧ Rep r (a - b) := by
  obtain ⟨s, m, p, hr1, he1⟩ := hx
  obtain ⟨t, n, q, hr2, he2⟩ := hy
  obtain ⟨k, hk⟩ : ∃ k, max p q = k := ⟨_, rfl⟩
  have hb : min (-(p : Int)) (-(q : Int)) = -(k : Int) := by omega
  have t1 : (-(p : Int) - -(k : Int)).toNat = k - p := by omega
  have t2 : (-(q : Int) - -(k : Int)).toNat = k - q := by omega
  have htot : signed s m (k - p) + signed (!t) n (k - q) = (a - b) * ((2 ^ k : Nat) : Int) := by
    rw [signed_eq, signed_eq, sg_opp, he1, he2, Int.neg_mul, Int.mul_assoc, Int.mul_assoc, ← Int.natCast_mul, ← Int.natCast_mul, ← Nat.pow_add, ← Nat.pow_add, show p + (k - p) = k by omega, show q + (k - q) = k by omega, Int.sub_mul]
    rfl
  unfold Format.sub
  rw [hr1, hr2]
  unfold Datum.opposite Datum.sum
  simp only [hb, t1, t2, htot]
  refine ⟨_, rfl, rep_write _ _ k _ ?_ h⟩
  by_cases h0 : (a - b) * ((2 ^ k : Nat) : Int) = 0
  · rw [h0]
    exact sg_zero _
  · rw [if_neg h0]
    unfold sg
    by_cases hneg : (a - b) * ((2 ^ k : Nat) : Int) < 0
    · rw [decide_eq_true hneg, if_pos rfl]
      omega
    · rw [decide_eq_false hneg, if_neg (by simp)]
      omega
theorem rep_prod {x y : Nat} {a b : Int} (hx : Rep x a) (hy : Rep y b) (h : (a * b).natAbs < 2 ^ 53) : ∃ r, double.mul x y = some r ∧ Rep r (a * b) := by
  obtain ⟨s, m, p, hr1, he1⟩ := hx
  obtain ⟨t, n, q, hr2, he2⟩ := hy
  unfold Format.mul
  rw [hr1, hr2]
  unfold Datum.product
  have e : -(p : Int) + -(q : Int) = -((p + q : Nat) : Int) := by omega
  simp only [e]
  refine ⟨_, rfl, rep_write _ _ (p + q) _ ?_ h⟩
  rw [sg_mul, he1, he2, Nat.pow_add, Int.natCast_mul, Int.mul_assoc, Int.mul_assoc, Int.mul_left_comm ((2 ^ p : Nat) : Int)]
theorem rep_order {x y : Nat} {a b : Int} (hx : Rep x a) (hy : Rep y b) : double.order x y = some (compare a b) := by
  obtain ⟨s, m, p, hr1, he1⟩ := hx
  obtain ⟨t, n, q, hr2, he2⟩ := hy
  obtain ⟨k, hk⟩ : ∃ k, max p q = k := ⟨_, rfl⟩
  have hb : min (-(p : Int)) (-(q : Int)) = -(k : Int) := by omega
  have t1 : (-(p : Int) - -(k : Int)).toNat = k - p := by omega
  have t2 : (-(q : Int) - -(k : Int)).toNat = k - q := by omega
  have h1 : signed s m (k - p) = a * ((2 ^ k : Nat) : Int) := by
    rw [signed_eq, he1, Int.mul_assoc, ← Int.natCast_mul, ← Nat.pow_add, show p + (k - p) = k by omega]
  have h2 : signed t n (k - q) = b * ((2 ^ k : Nat) : Int) := by
    rw [signed_eq, he2, Int.mul_assoc, ← Int.natCast_mul, ← Nat.pow_add, show q + (k - q) = k by omega]
  unfold Format.order
  rw [hr1, hr2]
  unfold Datum.order
  simp only [hb, t1, t2, h1, h2]
  congr 1
  have hpos : (0 : Int) < ((2 ^ k : Nat) : Int) := by have := Nat.two_pow_pos k; omega
  simp only [compare, compareOfLessAndEq]
  by_cases hlt : a < b
  · rw [if_pos hlt, if_pos (Int.mul_lt_mul_of_pos_right hlt hpos)]
  · rw [if_neg hlt, if_neg (fun h => hlt (Int.lt_of_mul_lt_mul_right h (Int.le_of_lt hpos)))]
    by_cases he : a = b
    · rw [if_pos he, if_pos (by rw [he])]
    · rw [if_neg he, if_neg (fun h => he (Int.eq_of_mul_eq_mul_right (by omega) h))]
theorem rep_eql {x y : Nat} {a b : Int} (hx : Rep x a) (hy : Rep y b) : (double.order x y == some .eq) = (a == b) := by
  rw [rep_order hx hy]
  by_cases h : a = b
  · subst h
    simp
  · have : compare a b ≠ .eq := fun e => h (by simpa using e)
    rw [beq_eq_false_iff_ne.2 h]
    cases hc : compare a b with
    | eq => exact absurd hc this
    | lt => rfl
    | gt => rfl
theorem rep_int (n : Int) (h : n.natAbs < 2 ^ 53) : Rep (FloatKind.f64.nearest n) n := by
  have := rep_write (decide (n < 0)) n.natAbs 0 n ?_ h
  · exact this
  · unfold sg
    by_cases hn : n < 0
    · rw [decide_eq_true hn, if_pos rfl]; simp; omega
    · rw [decide_eq_false hn, if_neg (by simp)]; simp; omega
theorem read_flip (x : Nat) : double.read (x ^^^ 2 ^ 63) = (double.read x).opposite := by
  have e1 : (x ^^^ 2 ^ 63) % 2 ^ 63 = x % 2 ^ 63 := by rw [Nat.xor_mod_two_pow, Nat.mod_self, Nat.xor_zero]
  have e2 : ((x ^^^ 2 ^ 63) / 2 ^ 63 % 2 == 1) = !(x / 2 ^ 63 % 2 == 1) := by
    rw [Nat.xor_div_two_pow, Nat.div_self (Nat.two_pow_pos _), show (x / 2 ^ 63 ^^^ 1) % 2 = (x / 2 ^ 63 % 2) ^^^ (1 % 2) from Nat.xor_mod_two_pow (n := 1)]
    rcases Nat.mod_two_eq_zero_or_one (x / 2 ^ 63) with h | h <;> rw [h] <;> rfl
  unfold Format.read
  rw [sw_d]
  simp only [e1, e2]
  split
  · rfl
  · split
    · rfl
    · split
      · rfl
      · rfl
theorem rep_neg {x : Nat} {a : Int} (h : Rep x a) : Rep (x ^^^ 2 ^ 63) (-a) := by
  obtain ⟨s, m, p, h1, h2⟩ := h
  refine ⟨!s, m, p, by rw [read_flip, h1]; rfl, ?_⟩
  rw [sg_opp, h2, Int.neg_mul]
end Go.Proofs.YtlobgpgdknjhlaaGreat.F
