/- Pauli strings: what the program's Check, Mul, Weight answer, over natural numbers. -/
import Derived.Test.YtechbhjdgfcgoaaDoorPauA
import Derived.Test.YtechbhjdgfcgoaaDoorPAx2
import Derived.Test.YtechbhjdgfcgoaaDoorPAx3
import Derived.Test.YtechbhjdgfcgoaaDoorPAx9
namespace Go.Proofs.YtechbhjdgfcgoaaDoor.Q
open Go Go.RowKit Go.Proofs.YtechbhjdgfcgoaaDoor.B Go.Proofs.YtechbhjdgfcgoaaDoor.PA Go.Proofs.YtechbhjdgfcgoaaDoorW.PrintWords Go.Proofs.YtechbhjdgfcgoaaDoorW.PrintLast Go.Proofs.YtechbhjdgfcgoaaDoorW.PrintMore
set_option linter.unusedVariables false
set_option linter.unusedSimpArgs false
theorem bs {α β : Type} (a : α) (f : α → Option β) : (some a).bind f = f a := by rw [Option.bind_some]
theorem awake : cubitlaw07_awake.f 1 = some true := by decide +kernel
/-- A string in its one form. -/
structure PauliOk (n x z p : Nat) : Prop where
  hn : n ≤ 64
  hx : x < 2 ^ n
  hz : z < 2 ^ n
  hp : p ≤ 3
theorem PauliOk.x64 {n x z p : Nat} (h : PauliOk n x z p) : x < 2 ^ 64 := Nat.lt_of_lt_of_le h.hx (Nat.pow_le_pow_right (by decide) h.hn)
theorem PauliOk.z64 {n x z p : Nat} (h : PauliOk n x z p) : z < 2 ^ 64 := Nat.lt_of_lt_of_le h.hz (Nat.pow_le_pow_right (by decide) h.hn)
theorem or_lt_iff {x z n : Nat} : x ||| z < 2 ^ n ↔ x < 2 ^ n ∧ z < 2 ^ n :=
  ⟨fun h => ⟨Nat.lt_of_le_of_lt Nat.left_le_or h, Nat.lt_of_le_of_lt Nat.right_le_or h⟩, fun h => Nat.or_lt_two_pow h.1 h.2⟩
theorem shr_zero {x n : Nat} (hx : x < 2 ^ 64) : shr .u64 (x : Int) (n : Int) = 0 ↔ x < 2 ^ n := by
  rw [shr_u hx, Nat.shiftRight_eq_div_pow]
  constructor
  · intro h
    have h' : x / 2 ^ n = 0 := by exact_mod_cast h
    exact (Nat.div_eq_zero_iff_lt (Nat.two_pow_pos n)).mp h'
  · intro h
    rw [Nat.div_eq_of_lt h]; rfl
theorem check_good {n x z p : Nat} (h : PauliOk n x z p) : pauli_Check.f n x z p = some 0 := by
  have h1 := h.hn; have h2 := h.hp; have hx := h.x64; have hz := h.z64
  have hor : x ||| z < 2 ^ 64 := or_lt_iff.mpr ⟨hx, hz⟩
  unfold pauli_Check.f pauli_below.f
  rw [if_neg (by omega), if_neg (by omega), if_neg (by omega), if_neg (by omega), or_u hx hz]
  by_cases h64 : (n : Int) = 64
  · rw [if_pos h64]; rfl
  · rw [if_neg h64, if_pos (by omega), (shr_zero hor).mpr (or_lt_iff.mpr ⟨h.hx, h.hz⟩)]; rfl
theorem w64 {a : Int} (h : -1000000 ≤ a ∧ a ≤ 1000000) : wrap64 a = a := by
  unfold wrap64
  omega
def mulPh (ax az p bx bz q n : Nat) : Nat := (p + q + phs ax az bx bz n) % 4
theorem cnt {n x : Nat} (hx : x < 2 ^ n) (h : n ≤ 64) : bits_Count.f (x : Int) = some ((pcs n x : Nat) : Int) := by
  unfold bits_Count.f
  rw [count_n (Nat.lt_of_lt_of_le hx (Nat.pow_le_pow_right (by decide) h)), bs, pc64 hx h]
theorem mul_ok {n ax az p bx bz q : Nat} (ha : PauliOk n ax az p) (hb : PauliOk n bx bz q) :
    pauli_Mul.f n ax az p n bx bz q = some ((n : Int), ((ax ^^^ bx : Nat) : Int), ((az ^^^ bz : Nat) : Int), ((mulPh ax az p bx bz q n : Nat) : Int), 0) := by
  have hn := ha.hn; have hp := ha.hp; have hq := hb.hp
  unfold pauli_Mul.f pauli_both.f
  rw [check_good ha, bs, if_pos rfl, check_good hb, bs, if_pos rfl, if_pos rfl, bs, if_pos rfl]
  rw [and_u ha.x64 ha.z64, and_u hb.x64 hb.z64, and_u ha.z64 hb.x64, xor_u ha.x64 hb.x64, xor_u ha.z64 hb.z64, and_u (Nat.xor_lt_two_pow ha.x64 hb.x64) (Nat.xor_lt_two_pow ha.z64 hb.z64)]
  rw [cnt (Nat.and_lt_two_pow _ ha.hz) hn, bs, cnt (Nat.and_lt_two_pow _ hb.hz) hn, bs, cnt (Nat.and_lt_two_pow _ hb.hx) hn, bs, cnt (Nat.and_lt_two_pow _ (xor_lt ha.hz hb.hz)) hn, bs, and3_i]
  have h1 := pcs_le n (ax &&& az)
  have h2 := pcs_le n (bx &&& bz)
  have h3 := pcs_le n (az &&& bx)
  have h4 := pcs_le n ((ax ^^^ bx) &&& (az ^^^ bz))
  have hm := phs_mod ax az bx bz n
  refine congrArg some ?_
  refine congrArg (fun t => ((n : Int), ((ax ^^^ bx : Nat) : Int), ((az ^^^ bz : Nat) : Int), t, (0 : Int))) ?_
  unfold mulPh
  generalize pcs n (ax &&& az) = c1 at *
  generalize pcs n (bx &&& bz) = c2 at *
  generalize pcs n (az &&& bx) = c3 at *
  generalize pcs n ((ax ^^^ bx) &&& (az ^^^ bz)) = c4 at *
  generalize phs ax az bx bz n = s at *
  clear ha hb
  rw [w64 (a := (p : Int) + (c1 : Int)) (by omega), w64 (a := (p : Int) + (c1 : Int) + (q : Int)) (by omega), w64 (a := (p : Int) + (c1 : Int) + (q : Int) + (c2 : Int)) (by omega), w64 (a := 2 * (c3 : Int)) (by omega), w64 (a := (p : Int) + (c1 : Int) + (q : Int) + (c2 : Int) + 2 * (c3 : Int)) (by omega), w64 (a := (p : Int) + (c1 : Int) + (q : Int) + (c2 : Int) + 2 * (c3 : Int) - (c4 : Int)) (by omega)]
  omega
theorem check_some {n p : Int} {x z : Nat} (hx : x < 2 ^ 64) (hz : z < 2 ^ 64) : ∃ e, pauli_Check.f n x z p = some e ∧ (e = 0 → ∃ m q : Nat, n = m ∧ p = q ∧ PauliOk m x z q) := by
  have hor : x ||| z < 2 ^ 64 := or_lt_iff.mpr ⟨hx, hz⟩
  unfold pauli_Check.f pauli_below.f
  by_cases h1 : n < 0
  · rw [if_pos h1]; exact ⟨_, rfl, fun h => absurd h (by decide)⟩
  rw [if_neg h1]
  by_cases h2 : n > 64
  · rw [if_pos h2]; exact ⟨_, rfl, fun h => absurd h (by decide)⟩
  rw [if_neg h2]
  by_cases h3 : p < 0
  · rw [if_pos h3]; exact ⟨_, rfl, fun h => absurd h (by decide)⟩
  rw [if_neg h3]
  by_cases h4 : p > 3
  · rw [if_pos h4]; exact ⟨_, rfl, fun h => absurd h (by decide)⟩
  rw [if_neg h4]
  obtain ⟨m, rfl⟩ : ∃ m : Nat, n = m := ⟨n.toNat, by omega⟩
  obtain ⟨q, rfl⟩ : ∃ q : Nat, p = q := ⟨p.toNat, by omega⟩
  rw [or_u hx hz]
  by_cases h64 : (m : Int) = 64
  · rw [if_pos h64, bs, if_pos rfl]
    have : m = 64 := by omega
    subst this
    exact ⟨_, rfl, fun _ => ⟨64, q, rfl, rfl, by omega, hx, hz, by omega⟩⟩
  · rw [if_neg h64, if_pos (by omega), bs]
    by_cases hs : shr .u64 ((x ||| z : Nat) : Int) (m : Int) = 0
    · rw [hs]
      have := or_lt_iff.mp ((shr_zero hor).mp hs)
      exact ⟨_, rfl, fun _ => ⟨m, q, rfl, rfl, by omega, this.1, this.2, by omega⟩⟩
    · rw [beq_eq_false_iff_ne.mpr hs]
      exact ⟨_, rfl, fun h => absurd h (by decide)⟩
theorem weight_ok {n x z p : Nat} (h : PauliOk n x z p) : pauli_Weight.f n x z p = some (((pcs n (x ||| z) : Nat) : Int), 0) := by
  unfold pauli_Weight.f
  rw [check_good h, bs, if_pos rfl, or_u h.x64 h.z64, cnt (or_lt_iff.mpr ⟨h.hx, h.hz⟩) h.hn, bs]
theorem mul_still {n ax az p bx bz q : Nat} (ha : PauliOk n ax az p) (hb : PauliOk n bx bz q) : PauliOk n (ax ^^^ bx) (az ^^^ bz) (mulPh ax az p bx bz q n) :=
  ⟨ha.hn, xor_lt ha.hx hb.hx, xor_lt ha.hz hb.hz, by unfold mulPh; omega⟩
end Go.Proofs.YtechbhjdgfcgoaaDoor.Q
