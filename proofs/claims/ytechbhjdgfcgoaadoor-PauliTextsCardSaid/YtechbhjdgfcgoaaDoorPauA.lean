/- Products of Pauli strings over natural numbers and bits: what is gathered qubit by qubit is what the numbers of ones tell. -/
import Derived.Test.YtechbhjdgfcgoaaDoorBitE0
namespace Go.Proofs.YtechbhjdgfcgoaaDoor.B
set_option linter.unusedVariables false
set_option linter.unusedSimpArgs false
def wt (b : Bool) : Nat := if b then 1 else 0
/-- The power of i that one qubit's product brings. -/
def phb (ax az bx bz : Bool) : Nat := (wt (ax && az) + wt (bx && bz) + 2 * wt (az && bx) + 3 * wt ((ax ^^ bx) && (az ^^ bz))) % 4
def at4 (x z : Bool) : Int := if x && z then 2 else if x then 1 else if z then 3 else 0
def phs (ax az bx bz : Nat) : Nat → Nat
  | 0 => 0
  | n + 1 => phs ax az bx bz n + phb (ax.testBit n) (az.testBit n) (bx.testBit n) (bz.testBit n)
theorem pcs_succ (n x : Nat) : pcs (n + 1) x = pcs n x + wt (x.testBit n) := rfl
theorem phb_lt (ax az bx bz : Bool) : phb ax az bx bz ≤ 3 := by unfold phb; omega
theorem phs_le (ax az bx bz : Nat) : ∀ n, phs ax az bx bz n ≤ 3 * n
  | 0 => Nat.le_refl _
  | n + 1 => by
    have := phs_le ax az bx bz n
    have := phb_lt (ax.testBit n) (az.testBit n) (bx.testBit n) (bz.testBit n)
    unfold phs
    omega
theorem phs_mod (ax az bx bz : Nat) : ∀ n, phs ax az bx bz n % 4 = (pcs n (ax &&& az) + pcs n (bx &&& bz) + 2 * pcs n (az &&& bx) + 3 * pcs n ((ax ^^^ bx) &&& (az ^^^ bz))) % 4
  | 0 => rfl
  | n + 1 => by
    have h := phs_mod ax az bx bz n
    have e : phs ax az bx bz (n + 1) = phs ax az bx bz n + phb (ax.testBit n) (az.testBit n) (bx.testBit n) (bz.testBit n) := rfl
    rw [e, pcs_succ, pcs_succ, pcs_succ, pcs_succ, Nat.testBit_and, Nat.testBit_and, Nat.testBit_and, Nat.testBit_and, Nat.testBit_xor, Nat.testBit_xor]
    unfold phb
    omega
/-- Above a string's length nothing is counted. -/
theorem pcs_stop {n m x : Nat} (hx : x < 2 ^ n) (h : n ≤ m) : pcs m x = pcs n x := by
  obtain ⟨d, rfl⟩ : ∃ d, m = n + d := ⟨m - n, by omega⟩
  clear h
  induction d with
  | zero => rfl
  | succ d ih =>
    have : x.testBit (n + d) = false := Nat.testBit_lt_two_pow (Nat.lt_of_lt_of_le hx (Nat.pow_le_pow_right (by decide) (by omega)))
    rw [show n + (d + 1) = n + d + 1 from rfl, pcs_succ, ih, this]
    rfl
theorem pc64 {n x : Nat} (hx : x < 2 ^ n) (h : n ≤ 64) : pc 64 x = pcs n x := by rw [pc_pcs, pcs_stop hx h]
/-- The words gathered bit by bit. -/
theorem or_setB {x j : Nat} (hx : x < 2 ^ j) : x ||| 2 ^ j = setB x j true := by
  refine Nat.eq_of_testBit_eq (fun i => ?_)
  rw [testBit_setB, Nat.testBit_or, Nat.testBit_two_pow]
  by_cases h : i = j
  · subst h; simp
  · have : ¬ j = i := fun e => h e.symm
    simp [h, this]
theorem same_setB {x j : Nat} (hx : x < 2 ^ j) : x = setB x j false := by
  unfold setB
  rw [if_pos (Nat.testBit_lt_two_pow hx)]
theorem ofB_lt' (f : Nat → Bool) (n : Nat) : ofB f n < 2 ^ n := by
  refine Nat.lt_pow_two_of_testBit _ (fun i hi => ?_)
  rw [testBit_ofB]
  have : ¬ i < n := by omega
  simp [this]
theorem ofB_eq {f : Nat → Bool} {n y : Nat} (hy : y < 2 ^ n) (h : ∀ i, i < n → f i = y.testBit i) : ofB f n = y := by
  refine Nat.eq_of_testBit_eq (fun i => ?_)
  rw [testBit_ofB]
  by_cases hi : i < n
  · simp [hi, h i hi]
  · rw [Nat.testBit_lt_two_pow (Nat.lt_of_lt_of_le hy (Nat.pow_le_pow_right (by decide) (by omega)))]
    simp [hi]
theorem xor_lt {a b n : Nat} (ha : a < 2 ^ n) (hb : b < 2 ^ n) : a ^^^ b < 2 ^ n := Nat.xor_lt_two_pow ha hb
/-- The weight. -/
def wts (x z : Nat) : Nat → Nat
  | 0 => 0
  | n + 1 => wts x z n + wt (x.testBit n || z.testBit n)
theorem wts_pcs (x z : Nat) : ∀ n, wts x z n = pcs n (x ||| z)
  | 0 => rfl
  | n + 1 => by
    rw [pcs_succ, Nat.testBit_or, ← wts_pcs x z n]
    rfl
end Go.Proofs.YtechbhjdgfcgoaaDoor.B
