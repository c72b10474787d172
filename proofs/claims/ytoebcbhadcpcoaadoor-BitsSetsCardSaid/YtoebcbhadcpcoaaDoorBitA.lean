/- Plain laws on Go's unsigned 64-bit words as natural numbers: and, or, xor, shifts, the number of ones. -/
import Derived.Laws.BitsLemmas
import Derived.RowKit
import Derived.OpenShut
import Derived.Test.YtoebcbhadcpcoaaDoorWMore
namespace Go.Proofs.YtoebcbhadcpcoaaDoor.B
open Go Go.RowKit Go.Proofs.YtoebcbhadcpcoaaDoorW.PrintMore Go.Proofs.YtoebcbhadcpcoaaDoorW.PrintWords

theorem wrap_u64 (n : Int) : IntKind.u64.wrap n = n % 18446744073709551616 := by simp [IntKind.wrap, IntKind.bits, IntKind.signed]
theorem wraps_u64 (n : Int) (h₀ : 0 ≤ n) (h₁ : n < 2 ^ 64) : IntKind.u64.wrap n = n := by rw [wrap_u64]; omega
theorem and_u {a b : Nat} (ha : a < 2 ^ 64) (hb : b < 2 ^ 64) : Go.bits .and .u64 (a : Int) (b : Int) = ((a &&& b : Nat) : Int) := (bits_nat .u64 64 (by decide) wraps_u64 a b ha hb).1
theorem or_u {a b : Nat} (ha : a < 2 ^ 64) (hb : b < 2 ^ 64) : Go.bits .or .u64 (a : Int) (b : Int) = ((a ||| b : Nat) : Int) := (bits_nat .u64 64 (by decide) wraps_u64 a b ha hb).2
theorem xor_u {a b : Nat} (ha : a < 2 ^ 64) (hb : b < 2 ^ 64) : Go.bits .xor .u64 (a : Int) (b : Int) = ((a ^^^ b : Nat) : Int) := by
  have ha' : a % 2 ^ IntKind.u64.bits = a := Nat.mod_eq_of_lt ha
  have hb' : b % 2 ^ IntKind.u64.bits = b := Nat.mod_eq_of_lt hb
  simp only [bits, BitVec.ofInt_natCast, BitVec.toNat_xor, BitVec.toNat_ofNat, ha', hb']
  refine wraps_u64 _ (Int.natCast_nonneg _) ?_
  have : a ^^^ b < 2 ^ 64 := Nat.xor_lt_two_pow ha hb
  exact_mod_cast this
theorem shl_u {a q : Nat} : shl .u64 (a : Int) (q : Int) = (((a <<< q) % 2 ^ 64 : Nat) : Int) := by
  unfold shl
  rw [wrap_u64, Nat.shiftLeft_eq]
  have e : ((q : Int).toNat) = q := by simp
  rw [e]
  have hb : IntKind.u64.bits = 64 := rfl
  rw [hb]
  rcases Nat.lt_or_ge q 64 with h | h
  · rw [Nat.min_eq_left (by omega), Int.natCast_emod, Int.natCast_mul, Int.natCast_pow]
    rfl
  · rw [Nat.min_eq_right h]
    have : a * 2 ^ q % 2 ^ 64 = 0 := by
      apply Nat.mod_eq_zero_of_dvd
      exact Nat.dvd_trans (Nat.pow_dvd_pow 2 h) (Nat.dvd_mul_left _ _)
    rw [this]
    omega
theorem shr_u {a q : Nat} (ha : a < 2 ^ 64) : shr .u64 (a : Int) (q : Int) = ((a >>> q : Nat) : Int) := by
  unfold shr
  have e : ((q : Int).toNat) = q := by simp
  have hb : IntKind.u64.bits = 64 := rfl
  rw [e, hb, Nat.shiftRight_eq_div_pow]
  rcases Nat.lt_or_ge q 64 with h | h
  · rw [Nat.min_eq_left (by omega)]
    push_cast
    rfl
  · rw [Nat.min_eq_right h]
    have h1 : a / 2 ^ q = 0 := Nat.div_eq_of_lt (Nat.lt_of_lt_of_le ha (Nat.pow_le_pow_right (by decide) h))
    rw [h1]
    omega
theorem and3_i (a : Int) : Go.bits .and .i64 a 3 = a % 4 := by
  have hx : (BitVec.ofInt 64 a).toNat = (a % 18446744073709551616).toNat := by simp [BitVec.toNat_ofInt]
  have h3 : (BitVec.ofInt 64 3).toNat = 3 := rfl
  have e : Go.bits .and .i64 a 3 = IntKind.i64.wrap ((((BitVec.ofInt 64 a) &&& (BitVec.ofInt 64 3)).toNat : Nat) : Int) := rfl
  rw [e, BitVec.toNat_and, hx, h3, show (3 : Nat) = 2 ^ 2 - 1 from rfl, Nat.and_two_pow_sub_one_eq_mod, IntKind.wrap_i64]
  omega
theorem and1_i (a : Int) : Go.bits .and .i64 a 1 = a % 2 := by
  have hx : (BitVec.ofInt 64 a).toNat = (a % 18446744073709551616).toNat := by simp [BitVec.toNat_ofInt]
  have h3 : (BitVec.ofInt 64 1).toNat = 1 := rfl
  have e : Go.bits .and .i64 a 1 = IntKind.i64.wrap ((((BitVec.ofInt 64 a) &&& (BitVec.ofInt 64 1)).toNat : Nat) : Int) := rfl
  rw [e, BitVec.toNat_and, hx, h3, show (1 : Nat) = 2 ^ 1 - 1 from rfl, Nat.and_two_pow_sub_one_eq_mod, IntKind.wrap_i64]
  omega
/-- A word out of its reading. -/
theorem word {a : Int} (h : (Lit.int .u64 a).wf = true) : ∃ n : Nat, n < 2 ^ 64 ∧ a = (n : Int) := by
  have := bounds_u64 h
  exact ⟨a.toNat, by omega, by omega⟩
theorem one_shl {q : Nat} (h : q < 64) : shl .u64 1 (q : Int) = ((2 ^ q : Nat) : Int) := by
  have := @shl_u 1 q
  rw [show ((1 : Nat) : Int) = 1 from rfl] at this
  rw [this, Nat.shiftLeft_eq, Nat.one_mul, Nat.mod_eq_of_lt (Nat.pow_lt_pow_right (by decide) h)]
end Go.Proofs.YtoebcbhadcpcoaaDoor.B
