/- Words by their bits: the document's bit and set, and what the program reckons with shifts, bit by bit. -/
import Derived.Test.YtoebcbhadcpcoaaDoorBitD
import Derived.Test.YtoebcbhadcpcoaaDoorPAx2
namespace Go.Proofs.YtoebcbhadcpcoaaDoor.B
open Go Go.RowKit Go.Proofs.YtoebcbhadcpcoaaDoor.PA Go.Proofs.YtoebcbhadcpcoaaDoorW.PrintMore Go.Proofs.YtoebcbhadcpcoaaDoorW.PrintWords
set_option linter.unusedVariables false
set_option linter.unusedSimpArgs false
def bb (b : Bool) : Int := if b then 1 else 0
theorem bb_true : bb true = 1 := rfl
theorem bb_false : bb false = 0 := rfl
theorem bb_eq (a b : Bool) : (bb a = bb b) ↔ a = b := by cases a <;> cases b <;> decide
theorem bb_one (a : Bool) : (bb a = 1) ↔ a = true := by cases a <;> decide
theorem bb_nat (b : Bool) : bb b = ((if b then 1 else 0 : Nat) : Int) := by cases b <;> rfl
theorem bb_w (b : Bool) : wrap64 (bb b) = bb b := by cases b <;> decide +kernel
theorem wrapn {n : Nat} (h : n < 2 ^ 64) : IntKind.u64.wrap (n : Int) = (n : Int) := wraps_u64 _ (Int.natCast_nonneg _) (by exact_mod_cast h)
theorem testBit_and1 (x j : Nat) : x >>> j &&& 1 = if x.testBit j then 1 else 0 := by
  rw [show (1 : Nat) = 2 ^ 1 - 1 from rfl, Nat.and_two_pow_sub_one_eq_mod, Nat.testBit_eq_decide_div_mod_eq, Nat.shiftRight_eq_div_pow]
  have := Nat.mod_lt (x / 2 ^ j) (show 2 > 0 by decide)
  by_cases h : x / 2 ^ j % 2 = 1
  · simp [h]
  · have : x / 2 ^ j % 2 = 0 := by omega
    simp [this]
/-- x >> j & 1. -/
theorem sh1 {x j : Nat} (hx : x < 2 ^ 64) : Go.bits .and .u64 (shr .u64 (x : Int) (j : Int)) 1 = bb (x.testBit j) := by
  rw [shr_u hx]
  have h1 : x >>> j < 2 ^ 64 := Nat.lt_of_le_of_lt (by rw [Nat.shiftRight_eq_div_pow]; exact Nat.div_le_self _ _) hx
  have := @and_u (x >>> j) 1 h1 (by decide)
  rw [show ((1 : Nat) : Int) = 1 from rfl] at this
  rw [this, testBit_and1, bb_nat]
theorem bit_n {x j : Nat} (hx : x < 2 ^ 64) (hj : j < 2 ^ 64) : cubitref03_bit.f (x : Int) (j : Int) = some (bb (x.testBit j)) := by
  unfold cubitref03_bit.f
  rw [wrapn hj, if_pos (Int.natCast_nonneg _), sh1 hx, bb_w]
/-- A number with its bit j made b. -/
def setB (x j : Nat) (b : Bool) : Nat := if x.testBit j = b then x else x ^^^ 2 ^ j
theorem testBit_setB (x j : Nat) (b : Bool) (i : Nat) : (setB x j b).testBit i = if i = j then b else x.testBit i := by
  unfold setB
  by_cases h : x.testBit j = b
  · rw [if_pos h]
    by_cases hi : i = j
    · rw [if_pos hi, hi, h]
    · rw [if_neg hi]
  · rw [if_neg h, Nat.testBit_xor, Nat.testBit_two_pow]
    by_cases hi : i = j
    · subst hi
      rw [if_pos rfl]
      cases hb : x.testBit i <;> cases b <;> simp_all
    · rw [if_neg hi]
      have : ¬ j = i := fun e => hi e.symm
      simp [this]
theorem setB_lt {x j : Nat} {b : Bool} (hx : x < 2 ^ 64) (hj : j < 64) : setB x j b < 2 ^ 64 := by
  unfold setB
  split
  · exact hx
  · exact Nat.xor_lt_two_pow hx (Nat.pow_lt_pow_right (by decide) hj)
theorem set_n {x j : Nat} {b : Bool} (hx : x < 2 ^ 64) (hj : j < 64) : cubitref03_set.f (x : Int) (j : Int) (bb b) = some ((setB x j b : Nat) : Int) := by
  unfold cubitref03_set.f
  rw [bit_n hx (Nat.lt_trans hj (by decide))]
  simp only [Option.bind_some]
  unfold setB
  by_cases h : x.testBit j = b
  · rw [if_pos ((bb_eq _ _).2 h), if_pos h]
  · rw [if_neg (fun e => h ((bb_eq _ _).1 e)), if_neg h, wrapn (Nat.lt_trans hj (by decide)), if_pos (Int.natCast_nonneg _), one_shl hj, xor_u hx (Nat.pow_lt_pow_right (by decide) hj)]
theorem bit_ge {x i : Nat} (hx : x < 2 ^ 64) (hi : 64 ≤ i) : x.testBit i = false := Nat.testBit_lt_two_pow (Nat.lt_of_lt_of_le hx (Nat.pow_le_pow_right (by decide) hi))
/-- Two words with the same bits. -/
theorem word_ext {x y : Nat} (hx : x < 2 ^ 64) (hy : y < 2 ^ 64) (h : ∀ i, i < 64 → x.testBit i = y.testBit i) : x = y := by
  refine Nat.eq_of_testBit_eq (fun i => ?_)
  rcases Nat.lt_or_ge i 64 with hi | hi
  · exact h i hi
  · rw [bit_ge hx hi, bit_ge hy hi]
/-- The word whose bits below n f tells. -/
def ofB (f : Nat → Bool) : Nat → Nat
  | 0 => 0
  | n + 1 => setB (ofB f n) n (f n)
theorem testBit_ofB (f : Nat → Bool) : ∀ n i, (ofB f n).testBit i = (decide (i < n) && f i)
  | 0, i => by simp [ofB]
  | n + 1, i => by
    unfold ofB
    rw [testBit_setB, testBit_ofB f n i]
    by_cases h : i = n
    · subst h; simp
    · rw [if_neg h]
      by_cases h2 : i < n
      · simp [h2, Nat.lt_succ_of_lt h2]
      · have : ¬ i < n + 1 := by omega
        simp [h2, this]
theorem ofB_lt (f : Nat → Bool) : ∀ n, n ≤ 64 → ofB f n < 2 ^ 64
  | 0, _ => by simp [ofB]
  | n + 1, h => setB_lt (ofB_lt f n (by omega)) (by omega)
theorem pc_bits (x : Nat) : ∀ (n j : Nat), pc (n + 1) (x / 2 ^ j) = (if x.testBit j then 1 else 0) + pc n (x / 2 ^ (j + 1)) := by
  intro n j
  have h : pc (n + 1) (x / 2 ^ j) = x / 2 ^ j % 2 + pc n (x / 2 ^ j / 2) := rfl
  rw [h, Nat.div_div_eq_div_mul, ← Nat.pow_succ, Nat.testBit_eq_decide_div_mod_eq]
  have := Nat.mod_lt (x / 2 ^ j) (show 2 > 0 by decide)
  congr 1
  by_cases h : x / 2 ^ j % 2 = 1
  · simp [h]
  · have : x / 2 ^ j % 2 = 0 := by omega
    simp [this]
theorem and_u' {a b : Nat} (ha : a < 2 ^ 64) (hb : b < 2 ^ 64) : (a &&& b) < 2 ^ 64 := Nat.and_lt_two_pow _ hb
theorem andNot_u {a b : Nat} (ha : a < 2 ^ 64) (hb : b < 2 ^ 64) : ∃ c : Nat, Go.bits .andNot .u64 (a : Int) (b : Int) = (c : Int) ∧ c < 2 ^ 64 ∧ ∀ i, c.testBit i = (a.testBit i && !b.testBit i) := by
  refine ⟨((BitVec.ofNat 64 a) &&& ~~~(BitVec.ofNat 64 b)).toNat, ?_, BitVec.isLt _, fun i => ?_⟩
  · have e : Go.bits .andNot .u64 (a : Int) (b : Int) = IntKind.u64.wrap ((((BitVec.ofInt 64 a) &&& ~~~(BitVec.ofInt 64 b)).toNat : Nat) : Int) := rfl
    rw [e, BitVec.ofInt_natCast, BitVec.ofInt_natCast]
    exact wrapn (BitVec.isLt _)
  · rw [← BitVec.getLsbD, BitVec.getLsbD_and, BitVec.getLsbD_not, BitVec.getLsbD_ofNat, BitVec.getLsbD_ofNat]
    rcases Nat.lt_or_ge i 64 with hi | hi
    · simp [hi]
    · rw [bit_ge ha hi]
      simp
end Go.Proofs.YtoebcbhadcpcoaaDoor.B
