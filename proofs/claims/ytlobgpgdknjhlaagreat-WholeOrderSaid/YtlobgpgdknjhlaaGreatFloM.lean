/- Whole numbers as words: the one word of each. -/
import Derived.Test.YtlobgpgdknjhlaaGreatFloN
namespace Go.Proofs.YtlobgpgdknjhlaaGreat.F
open Ieee
set_option linter.unusedVariables false
set_option linter.unusedSimpArgs false
/-- The word of a whole number. -/
def Fl (z : Int) : Nat := FloatKind.f64.nearest z
theorem rep_fl {z : Int} (h : z.natAbs < 2 ^ 53) : Rep (Fl z) z := rep_int z h
theorem sign_of {s : Bool} {m p : Nat} {z : Int} (h : sg s m = z * ((2 ^ p : Nat) : Int)) (h0 : z ≠ 0) : s = decide (z < 0) := by
  have hp : (0 : Int) < ((2 ^ p : Nat) : Int) := by have := Nat.two_pow_pos p; omega
  cases s with
  | true =>
    have h1 : z * ((2 ^ p : Nat) : Int) ≤ 0 := by rw [← h]; unfold sg; simp
    symm
    rw [decide_eq_true_eq]
    rcases Int.lt_trichotomy z 0 with h2 | h2 | h2
    · exact h2
    · exact absurd h2 h0
    · have := Int.mul_pos h2 hp
      omega
  | false =>
    have h1 : 0 ≤ z * ((2 ^ p : Nat) : Int) := by rw [← h]; unfold sg; simp
    symm
    rw [decide_eq_false_iff_not]
    intro h2
    have := Int.mul_neg_of_neg_of_pos h2 hp
    omega
theorem write_word (s : Bool) (m p : Nat) (z : Int) (h : sg s m = z * ((2 ^ p : Nat) : Int)) (hz : z.natAbs < 2 ^ 53) (h0 : z ≠ 0) :
    double.write (.number s m (-(p : Int))) = double.word s ((z.natAbs.log2 + 1022) * 2 ^ 52 + z.natAbs * 2 ^ (52 - z.natAbs.log2)) := by
  have hm : m = z.natAbs * 2 ^ p := by
    have := congrArg Int.natAbs h
    rw [sg_natAbs, Int.natAbs_mul, Int.natAbs_natCast] at this
    exact this
  have ha : 0 < z.natAbs := by omega
  have hm0 : m ≠ 0 := by
    rw [hm]
    exact Nat.ne_of_gt (Nat.mul_pos ha (Nat.two_pow_pos _))
  show double.nearest s m (-(p : Int)) = _
  unfold Format.nearest
  rw [if_neg hm0]
  obtain ⟨a, hza⟩ : ∃ a, z.natAbs = a := ⟨_, rfl⟩
  rw [hza] at hm hz ha ⊢
  obtain ⟨L, hL⟩ : ∃ L, a.log2 = L := ⟨_, rfl⟩
  have hL1 : 2 ^ L ≤ a := by rw [← hL]; exact Nat.log2_self_le (by omega)
  have hL2 : a < 2 ^ (L + 1) := by rw [← hL]; exact Nat.lt_log2_self
  have hL3 : L ≤ 52 := by
    rcases Nat.lt_or_ge 52 L with h | h
    · have := Nat.pow_le_pow_right (n := 2) (by decide) (show 53 ≤ L by omega)
      omega
    · exact h
  have hlog : m.log2 = L + p := by
    rw [hm, Nat.log2_eq_iff (by rw [← hm]; exact hm0), Nat.pow_add, show L + p + 1 = (L + 1) + p by omega, Nat.pow_add 2 (L + 1)]
    exact ⟨Nat.mul_le_mul_right _ hL1, Nat.mul_lt_mul_of_pos_right hL2 (Nat.two_pow_pos _)⟩
  have hlast : max (-(p : Int) + ((m.log2 : Nat) : Int) - ((double.fractionBits : Nat) : Int)) double.leastPlace = (L : Int) - 52 := by
    rw [hlog, lp_d, show double.fractionBits = 52 from rfl]
    omega
  have hkept : Toward.even.cut s (m <<< (-(p : Int) - ((L : Int) - 52)).toNat) (((L : Int) - 52) - -(p : Int)).toNat = a * 2 ^ (52 - L) := by
    refine cut_exact s _ _ _ ?_ (Nat.mul_pos ha (Nat.two_pow_pos _))
    rw [Nat.shiftLeft_eq, hm]
    by_cases hp : p ≤ 52 - L
    · rw [show (-(p : Int) - ((L : Int) - 52)).toNat = 52 - L - p by omega, show (((L : Int) - 52) - -(p : Int)).toNat = 0 by omega, Nat.mul_assoc, ← Nat.pow_add, show p + (52 - L - p) = 52 - L by omega, Nat.pow_zero, Nat.mul_one]
    · rw [show (-(p : Int) - ((L : Int) - 52)).toNat = 0 by omega, show (((L : Int) - 52) - -(p : Int)).toNat = p - (52 - L) by omega, Nat.pow_zero, Nat.mul_one, Nat.mul_assoc, ← Nat.pow_add, show 52 - L + (p - (52 - L)) = p by omega]
  have hk1 : 2 ^ 52 ≤ a * 2 ^ (52 - L) := by
    have := Nat.mul_le_mul_right (2 ^ (52 - L)) hL1
    rw [← Nat.pow_add, show L + (52 - L) = 52 by omega] at this
    exact this
  have hk2 : a * 2 ^ (52 - L) < 2 ^ 53 := by
    have := Nat.mul_lt_mul_of_pos_right hL2 (Nat.two_pow_pos (52 - L))
    rw [← Nat.pow_add, show L + 1 + (52 - L) = 53 by omega] at this
    exact this
  simp only [hlast, hkept]
  rw [hL]
  obtain ⟨kp, hkp⟩ : ∃ kp, a * 2 ^ (52 - L) = kp := ⟨_, rfl⟩
  rw [hkp] at hk1 hk2 ⊢
  have hr : ((L : Int) - 52 - double.leastPlace).toNat = L + 1022 := by rw [lp_d]; omega
  rw [hr, bin_d, inf_d]
  obtain ⟨e1, e2, e3, e4⟩ := rungs (2 ^ 52) (L + 1022) kp (Nat.two_pow_pos _) hk1 (by rw [Nat.pow_succ] at hk2; omega) (by omega)
  rw [Nat.min_eq_left (Nat.le_of_lt e4)]
theorem sg_self (z : Int) : sg (decide (z < 0)) z.natAbs = z * ((2 ^ 0 : Nat) : Int) := by
  unfold sg
  by_cases hn : z < 0
  · rw [decide_eq_true hn, if_pos rfl]; simp; omega
  · rw [decide_eq_false hn, if_neg (by simp)]; simp; omega
theorem fl_word {z : Int} (hz : z.natAbs < 2 ^ 53) (h0 : z ≠ 0) : Fl z = double.word (decide (z < 0)) ((z.natAbs.log2 + 1022) * 2 ^ 52 + z.natAbs * 2 ^ (52 - z.natAbs.log2)) :=
  write_word (decide (z < 0)) z.natAbs 0 z (sg_self z) hz h0
theorem write_fl (s : Bool) (m p : Nat) (z : Int) (h : sg s m = z * ((2 ^ p : Nat) : Int)) (hz : z.natAbs < 2 ^ 53) (h0 : z ≠ 0) : double.write (.number s m (-(p : Int))) = Fl z := by
  rw [write_word s m p z h hz h0, fl_word hz h0, sign_of h h0]
theorem fl_zero : Fl 0 = 0 := by decide +kernel
/-- A word of a whole number; of nought either one. -/
def Zr (r : Nat) (z : Int) : Prop := r = Fl z ∨ z = 0 ∧ r = 2 ^ 63
theorem write_zr (s : Bool) (m p : Nat) (z : Int) (h : sg s m = z * ((2 ^ p : Nat) : Int)) (hz : z.natAbs < 2 ^ 53) : Zr (double.write (.number s m (-(p : Int)))) z := by
  by_cases h0 : z = 0
  · subst h0
    have hm : m = 0 := by
      have := congrArg Int.natAbs h
      rw [sg_natAbs, Int.zero_mul] at this
      simpa using this
    subst hm
    show Zr (double.nearest s 0 (-(p : Int))) 0
    unfold Format.nearest
    rw [if_pos rfl]
    cases s with
    | true => exact .inr ⟨rfl, by decide +kernel⟩
    | false => exact .inl (by decide +kernel)
  · exact .inl (write_fl s m p z h hz h0)
theorem add_zr {x y : Nat} {a b : Int} (hx : Rep x a) (hy : Rep y b) (h : (a + b).natAbs < 2 ^ 53) : ∃ r, double.add x y = some r ∧ Zr r (a + b) := by
  obtain ⟨s, m, p, hr1, he1⟩ := hx
  obtain ⟨t, n, q, hr2, he2⟩ := hy
  obtain ⟨k, hk⟩ : ∃ k, max p q = k := ⟨_, rfl⟩
  have hb : min (-(p : Int)) (-(q : Int)) = -(k : Int) := by omega
  have t1 : (-(p : Int) - -(k : Int)).toNat = k - p := by omega
  have t2 : (-(q : Int) - -(k : Int)).toNat = k - q := by omega
  have htot : signed s m (k - p) + signed t n (k - q) = (a + b) * ((2 ^ k : Nat) : Int) := by
    rw [signed_eq, signed_eq, he1, he2, Int.mul_assoc, Int.mul_assoc, ← Int.natCast_mul, ← Int.natCast_mul, ← Nat.pow_add, ← Nat.pow_add, show p + (k - p) = k by omega, show q + (k - q) = k by omega, Int.add_mul]
  unfold Format.add
  rw [hr1, hr2]
  unfold Datum.sum
  simp only [hb, t1, t2, htot]
  refine ⟨_, rfl, write_zr _ _ k _ ?_ h⟩
  by_cases h0 : (a + b) * ((2 ^ k : Nat) : Int) = 0
  · rw [h0]
    exact sg_zero _
  · rw [if_neg h0]
    unfold sg
    by_cases hneg : (a + b) * ((2 ^ k : Nat) : Int) < 0
    · rw [decide_eq_true hneg, if_pos rfl]
      omega
    · rw [decide_eq_false hneg, if_neg (by simp)]
      omega
theorem sub_zr {x y : Nat} {a b : Int} (hx : Rep x a) (hy : Rep y b) (h : (a - b).natAbs < 2 ^ 53) : ∃ r, double.sub x y = some r ∧ Zr r (a - b) := by
  obtain ⟨s, m, p, hr1, he1⟩ := hx
  obtain ⟨t, n, q, hr2, he2⟩ := hy
  obtain ⟨k, hk⟩ : ∃ k, max p q = k := ⟨_, rfl⟩
  have hb : min (-(p : Int)) (-(q : Int)) = -(k : Int) := by omega
  have t1 : (-(p : Int) - -(k : Int)).toNat = k - p := by omega
  have t2 : (-(q : Int) - -(k : Int)).toNat = k - q := by omega
  have htot : signed s m (k - p) + signed (!t) n (k - q) = (a - b) * ((2 ^ k : Nat) : Int) := by
    rw [signed_eq, signed_eq, sg_opp, he1, he2, Int.neg_mul, Int.mul_assoc, Int.mul_assoc, ← Int.natCast_mul, ← Int.natCast_mul, ← Nat.pow_add, ← Nat.pow_add, show p + (k - p) = k by omega, show q + (k - q) = k by omega, Int.sub_mul]
    rfl
  unfold Format.sub
  rw [hr1, hr2]
  unfold Datum.opposite Datum.sum
  simp only [hb, t1, t2, htot]
  refine ⟨_, rfl, write_zr _ _ k _ ?_ h⟩
  by_cases h0 : (a - b) * ((2 ^ k : Nat) : Int) = 0
  · rw [h0]
    exact sg_zero _
  · rw [if_neg h0]
    unfold sg
    by_cases hneg : (a - b) * ((2 ^ k : Nat) : Int) < 0
    · rw [decide_eq_true hneg, if_pos rfl]
      omega
    · rw [decide_eq_false hneg, if_neg (by simp)]
      omega
theorem Zr.rep {r : Nat} {z : Int} (h : Zr r z) (hz : z.natAbs < 2 ^ 53) : Rep r z := by
  rcases h with rfl | ⟨rfl, rfl⟩
  · exact rep_fl hz
  · exact ⟨true, 0, 1074, read_zero true, by rw [sg_zero, Int.zero_mul]⟩
/-- Plus nought: the one word. -/
theorem fix_zr {r : Nat} {z : Int} (h : Zr r z) (hz : z.natAbs < 2 ^ 53) : double.add r 0 = some (Fl z) := by
  by_cases h0 : z = 0
  · subst h0
    rcases h with rfl | ⟨_, rfl⟩ <;> decide +kernel
  · have h2 : Rep 0 0 := by have := rep_fl (z := 0) (by decide); rwa [fl_zero] at this
    obtain ⟨x, e, hx⟩ := add_zr (h.rep hz) h2 (by simpa using hz)
    rw [Int.add_zero] at hx
    rcases hx with rfl | ⟨h1, _⟩
    · exact e
    · exact absurd h1 h0
theorem word_flip (s : Bool) (n : Nat) (h : n < 2 ^ 63) : double.word s n ^^^ 2 ^ 63 = double.word (!s) n := by
  unfold Format.word
  rw [sw_d]
  have e : n ^^^ 2 ^ 63 = 2 ^ 63 + n := by
    have h1 : n ^^^ 2 ^ 63 = 2 ^ 63 * (n / 2 ^ 63 ^^^ 1) + (n % 2 ^ 63 ^^^ 0) := by
      have h2 : (n ^^^ 2 ^ 63) / 2 ^ 63 = n / 2 ^ 63 ^^^ 1 := by rw [Nat.xor_div_two_pow, Nat.div_self (Nat.two_pow_pos _)]
      have h3 : (n ^^^ 2 ^ 63) % 2 ^ 63 = n % 2 ^ 63 ^^^ 0 := by rw [Nat.xor_mod_two_pow, Nat.mod_self]
      rw [← h2, ← h3]
      exact (Nat.div_add_mod _ _).symm
    rw [h1, Nat.div_eq_of_lt h, Nat.mod_eq_of_lt h, Nat.xor_zero]
    simp
  cases s with
  | true =>
    simp only [if_true, Bool.not_true, Bool.false_eq_true, if_false]
    rw [← e, Nat.xor_assoc, Nat.xor_self, Nat.xor_zero]
  | false =>
    simp only [Bool.false_eq_true, if_false, Bool.not_false, if_true]
    exact e
/-- The sign turned. -/
theorem neg_zr {z : Int} (hz : z.natAbs < 2 ^ 53) : Zr (Fl z ^^^ 2 ^ 63) (-z) := by
  by_cases h0 : z = 0
  · subst h0
    exact .inr ⟨rfl, by rw [fl_zero]; decide⟩
  · left
    have hz' : (-z).natAbs < 2 ^ 53 := by rwa [Int.natAbs_neg]
    rw [fl_word hz h0, fl_word hz' (by omega), Int.natAbs_neg, word_flip]
    · congr 1
      by_cases hn : z < 0
      · rw [decide_eq_true hn, decide_eq_false (by omega)]; rfl
      · rw [decide_eq_false hn, decide_eq_true (by omega)]; rfl
    · have hL1 := Nat.lt_log2_self (n := z.natAbs)
      have hL3 : z.natAbs.log2 ≤ 52 := by
        have := (Nat.log2_lt (n := z.natAbs) (k := 53) (by omega)).2 hz
        omega
      have hk2 : z.natAbs * 2 ^ (52 - z.natAbs.log2) < 2 ^ 53 := by
        have := Nat.mul_lt_mul_of_pos_right hL1 (Nat.two_pow_pos (52 - z.natAbs.log2))
        rw [← Nat.pow_add, show z.natAbs.log2 + 1 + (52 - z.natAbs.log2) = 53 by omega] at this
        exact this
      omega
theorem fl_inj {a b : Int} (ha : a.natAbs < 2 ^ 53) (hb : b.natAbs < 2 ^ 53) (h : Fl a = Fl b) : a = b := by
  have h1 := rep_eql (rep_fl ha) (rep_fl hb)
  have h2 := rep_eql (rep_fl ha) (rep_fl ha)
  rw [← h] at h1
  rw [h1] at h2
  simpa using h2
end Go.Proofs.YtlobgpgdknjhlaaGreat.F
