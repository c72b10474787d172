/- Pauli strings: what the program's and the document's Check, Mul, Commute, Weight, Adjoint and Text answer, over natural numbers. -/
import Derived.Test.YtechbhjdgfcgoaaPauA
import Derived.Test.YtechbhjdgfcgoaaPAx3
import Derived.Test.YtechbhjdgfcgoaaPAx8
import Derived.Test.YtechbhjdgfcgoaaPAx9
import Derived.Test.YtechbhjdgfcgoaaGText
namespace Go.Proofs.Ytechbhjdgfcgoaa.B
open Go Go.RowKit Go.Proofs.Ytechbhjdgfcgoaa.PA Go.Proofs.YtechbhjdgfcgoaaW.PrintWords Go.Proofs.YtechbhjdgfcgoaaW.PrintLast Go.Proofs.YtechbhjdgfcgoaaW.PrintMore
set_option linter.unusedVariables false
set_option linter.unusedSimpArgs false
theorem bs {α β : Type} (a : α) (f : α → Option β) : (some a).bind f = f a := by rw [Option.bind_some]
theorem awake : cubitlaw07_awake.f 1 = some true := by decide +kernel
/-- A string in its one form. -/
structure PauliOk (n x z p : Nat) : Prop where
  hn : n ≤ 64
  hx : x < 2 ^ n
  hz : z < 2 ^ n
  hp : p ≤ 3
theorem PauliOk.x64 {n x z p : Nat} (h : PauliOk n x z p) : x < 2 ^ 64 := Nat.lt_of_lt_of_le h.hx (Nat.pow_le_pow_right (by decide) h.hn)
theorem PauliOk.z64 {n x z p : Nat} (h : PauliOk n x z p) : z < 2 ^ 64 := Nat.lt_of_lt_of_le h.hz (Nat.pow_le_pow_right (by decide) h.hn)
theorem or_lt_iff {x z n : Nat} : x ||| z < 2 ^ n ↔ x < 2 ^ n ∧ z < 2 ^ n :=
  ⟨fun h => ⟨Nat.lt_of_le_of_lt Nat.left_le_or h, Nat.lt_of_le_of_lt Nat.right_le_or h⟩, fun h => Nat.or_lt_two_pow h.1 h.2⟩
theorem shr_zero {x n : Nat} (hx : x < 2 ^ 64) : shr .u64 (x : Int) (n : Int) = 0 ↔ x < 2 ^ n := by
  rw [shr_u hx, Nat.shiftRight_eq_div_pow]
  constructor
  · intro h
    have h' : x / 2 ^ n = 0 := by exact_mod_cast h
    exact (Nat.div_eq_zero_iff_lt (Nat.two_pow_pos n)).mp h'
  · intro h
    rw [Nat.div_eq_of_lt h]; rfl
theorem check_good {n x z p : Nat} (h : PauliOk n x z p) : pauli_Check.f n x z p = some 0 := by
  have h1 := h.hn; have h2 := h.hp; have hx := h.x64; have hz := h.z64
  have hor : x ||| z < 2 ^ 64 := or_lt_iff.mpr ⟨hx, hz⟩
  unfold pauli_Check.f pauli_below.f
  rw [if_neg (by omega), if_neg (by omega), if_neg (by omega), if_neg (by omega), or_u hx hz]
  by_cases h64 : (n : Int) = 64
  · rw [if_pos h64]; rfl
  · rw [if_neg h64, if_pos (by omega), (shr_zero hor).mpr (or_lt_iff.mpr ⟨h.hx, h.hz⟩)]; rfl
theorem refcheck_good {n x z p : Nat} (h : PauliOk n x z p) : Ev (fun k => cubitref07_Check.f k n x z p) 0 := by
  have h1 := h.hn; have h2 := h.hp; have hx := h.x64; have hz := h.z64
  have e : ∀ k, cubitref07_Check.f k n x z p = cubitref07_Check.j0 k false n x z p := by
    intro k
    unfold cubitref07_Check.f
    rw [if_neg (by omega), if_neg (by omega), if_neg (by omega), decide_eq_false (by omega)]
  refine Ev.congr e (Ev.step (f := fun _ => some 0) (fun k => ?_) (Ev.now _))
  rw [cubitref07_Check.j0]
  rw [if_neg (by decide)]
  by_cases h64 : (n : Int) < 64
  · rw [if_pos h64, if_pos (by omega), if_pos ((shr_zero hx).mpr h.hx), if_pos ((shr_zero hz).mpr h.hz)]
  · rw [if_neg h64]
/-- What is no string: neither takes it. -/
theorem check_bad {n p : Int} {x z : Nat} (hx : x < 2 ^ 64) (hz : z < 2 ^ 64) (h : ¬ ∃ m q : Nat, n = m ∧ p = q ∧ PauliOk m x z q) : pauli_Check.f n x z p = some 70 ∧ Ev (fun k => cubitref07_Check.f k n x z p) 70 := by
  have hor : x ||| z < 2 ^ 64 := or_lt_iff.mpr ⟨hx, hz⟩
  have bad : ∀ k, cubitref07_Check.j0 (k + 1) true n x z p = some 70 := fun k => by
    rw [cubitref07_Check.j0]
    rw [if_pos rfl]
  unfold pauli_Check.f pauli_below.f cubitref07_Check.f
  by_cases h1 : n < 0
  · simp only [if_pos h1]
    exact ⟨trivial, Ev.step (f := fun _ => some 70) bad (Ev.now _)⟩
  · simp only [if_neg h1]
    by_cases h2 : n > 64
    · simp only [if_pos h2]
      exact ⟨trivial, Ev.step (f := fun _ => some 70) bad (Ev.now _)⟩
    · simp only [if_neg h2]
      by_cases h3 : p < 0
      · simp only [if_pos h3]
        exact ⟨trivial, Ev.step (f := fun _ => some 70) bad (Ev.now _)⟩
      · simp only [if_neg h3]
        by_cases h4 : p > 3
        · simp only [if_pos h4, decide_eq_true h4]
          exact ⟨trivial, Ev.step (f := fun _ => some 70) bad (Ev.now _)⟩
        · simp only [if_neg h4, decide_eq_false h4]
          obtain ⟨m, rfl⟩ : ∃ m : Nat, n = m := ⟨n.toNat, by omega⟩
          obtain ⟨q, rfl⟩ : ∃ q : Nat, p = q := ⟨p.toNat, by omega⟩
          have hb : ¬ (x < 2 ^ m ∧ z < 2 ^ m) := fun hh => h ⟨m, q, rfl, rfl, by omega, hh.1, hh.2, by omega⟩
          have hm : m < 64 := by
            rcases Nat.lt_or_ge m 64 with hlt | hge
            · exact hlt
            · have : m = 64 := by omega
              subst this
              exact absurd ⟨hx, hz⟩ hb
          rw [or_u hx hz, if_neg (show ¬ (m : Int) = 64 by omega), if_pos (show (0 : Int) ≤ m by omega)]
          have hs : (shr .u64 ((x ||| z : Nat) : Int) (m : Int) == 0) = false := beq_eq_false_iff_ne.mpr (fun e => hb (or_lt_iff.mp ((shr_zero hor).mp e)))
          rw [hs]
          refine ⟨rfl, Ev.step (f := fun _ => some 70) (fun k => ?_) (Ev.now _)⟩
          rw [cubitref07_Check.j0]
          rw [if_neg (by decide), if_pos (by omega), if_pos (by omega)]
          by_cases hx0 : shr .u64 (x : Int) (m : Int) = 0
          · rw [if_pos hx0]
            by_cases hz0 : shr .u64 (z : Int) (m : Int) = 0
            · exact absurd ⟨(shr_zero hx).mp hx0, (shr_zero hz).mp hz0⟩ hb
            · rw [if_neg hz0]
          · rw [if_neg hx0]
theorem at_n {x z j : Nat} {n p : Int} (hx : x < 2 ^ 64) (hz : z < 2 ^ 64) : cubitref07_At.f n x z p j = some (at4 (x.testBit j) (z.testBit j)) := by
  unfold cubitref07_At.f
  rw [if_pos (by omega), sh1 hx, sh1 hz]
  cases x.testBit j <;> cases z.testBit j <;> rfl
theorem product_n (ax az bx bz : Bool) : cubitref07_product.f (at4 ax az) (at4 bx bz) = some (at4 (ax ^^ bx) (az ^^ bz), (phb ax az bx bz : Int)) := by
  cases ax <;> cases az <;> cases bx <;> cases bz <;> decide +kernel
theorem set_n {x z j : Nat} {n p : Int} (hj : j < 64) (hx : x < 2 ^ j) (hz : z < 2 ^ j) (u v : Bool) (k : Nat) :
    cubitref07_set.f (k + 1) n x z p j (at4 u v) = some (n, ((setB x j u : Nat) : Int), ((setB z j v : Nat) : Int), p) := by
  have h64 : (2 : Nat) ^ j < 2 ^ 64 := Nat.pow_lt_pow_right (by decide) hj
  have hs := one_shl hj
  have ox := @or_u x (2 ^ j) (by omega) h64
  have oz := @or_u z (2 ^ j) (by omega) h64
  have h0 : (0 : Int) ≤ (j : Int) := by omega
  rw [or_setB hx] at ox
  rw [or_setB hz] at oz
  unfold cubitref07_set.f
  cases u <;> cases v
  · rw [show at4 false false = 0 from rfl, if_neg (by decide), show ((0 : Int) == 2) = false from rfl]
    rw [cubitref07_set.j0]
    rw [if_neg (by decide), if_neg (by decide), if_neg (by decide), ← same_setB hx, ← same_setB hz]
  · rw [show at4 false true = 3 from rfl, if_neg (by decide), show ((3 : Int) == 2) = false from rfl]
    rw [cubitref07_set.j0]
    rw [if_neg (by decide), if_neg (by decide), if_pos rfl, if_pos h0, hs, oz, ← same_setB hx]
  · rw [show at4 true false = 1 from rfl, if_pos rfl]
    rw [cubitref07_set.j0]
    rw [if_pos rfl, if_pos h0, if_neg (by decide), if_neg (by decide), hs, ox, ← same_setB hz]
  · rw [show at4 true true = 2 from rfl, if_neg (by decide), show ((2 : Int) == 2) = true from rfl]
    rw [cubitref07_set.j0]
    rw [if_pos rfl, if_pos h0, if_pos rfl, hs, ox, oz]
/-- The document's loop over the qubits. -/
theorem mul_loop {n ax az p bx bz q : Nat} (ha : PauliOk n ax az p) (hb : PauliOk n bx bz q) : ∀ (d j : Nat), j + d = n →
    Ev (fun k => cubitref07_Mul.l0 k (j : Int) (n : Int) (ax : Int) (az : Int) (p : Int) (n : Int) (bx : Int) (bz : Int) (q : Int) (n : Int) ((ofB (fun i => ax.testBit i ^^ bx.testBit i) j : Nat) : Int) ((ofB (fun i => az.testBit i ^^ bz.testBit i) j : Nat) : Int) ((p + q + phs ax az bx bz j : Nat) : Int))
      ((n : Int), ((ax ^^^ bx : Nat) : Int), ((az ^^^ bz : Nat) : Int), (((p + q + phs ax az bx bz n) % 4 : Nat) : Int), 0)
  | 0, j, hj => by
    have hjn : j = n := by omega
    subst hjn
    refine Ev.step (f := fun _ => some _) (fun k => ?_) (Ev.now _)
    rw [cubitref07_Mul.l0]
    rw [if_neg (by omega), ofB_eq (y := ax ^^^ bx) (xor_lt ha.hx hb.hx) (fun i _ => (Nat.testBit_xor ..).symm), ofB_eq (y := az ^^^ bz) (xor_lt ha.hz hb.hz) (fun i _ => (Nat.testBit_xor ..).symm)]
    rw [Int.tmod_eq_emod_of_nonneg (by omega)]
    rfl
  | d + 1, j, hj => by
    have hn := ha.hn
    have hp := ha.hp
    have hq := hb.hp
    have hle := phs_le ax az bx bz j
    have hlb := phb_lt (ax.testBit j) (az.testBit j) (bx.testBit j) (bz.testBit j)
    obtain ⟨K, ih⟩ := mul_loop ha hb d (j + 1) (by omega)
    refine ⟨K + 2, fun k hk => ?_⟩
    obtain ⟨k, rfl⟩ : ∃ m, k = m + 1 + 1 := ⟨k - 2, by omega⟩
    have ih := ih (k + 1) (by omega)
    show cubitref07_Mul.l0 (k + 1 + 1) _ _ _ _ _ _ _ _ _ _ _ _ _ = _
    rw [cubitref07_Mul.l0]
    rw [if_pos (by omega), at_n ha.x64 ha.z64, bs, at_n hb.x64 hb.z64, bs, product_n, bs]
    simp only []
    rw [set_n (by omega) (ofB_lt' _ _) (ofB_lt' _ _), bs]
    have e1 : wrap64 ((j : Int) + 1) = ((j + 1 : Nat) : Int) := w1n (n := 64) (by omega) (by omega)
    have e2 : wrap64 (((p + q + phs ax az bx bz j : Nat) : Int) + (phb (ax.testBit j) (az.testBit j) (bx.testBit j) (bz.testBit j) : Int)) = ((p + q + phs ax az bx bz (j + 1) : Nat) : Int) := by
      have e : phs ax az bx bz (j + 1) = phs ax az bx bz j + phb (ax.testBit j) (az.testBit j) (bx.testBit j) (bz.testBit j) := rfl
      rw [e]
      unfold wrap64
      omega
    simp only []
    rw [e1, e2]
    exact ih
theorem w64 {a : Int} (h : -1000000 ≤ a ∧ a ≤ 1000000) : wrap64 a = a := by
  unfold wrap64
  omega
def mulPh (ax az p bx bz q n : Nat) : Nat := (p + q + phs ax az bx bz n) % 4
theorem refmul_ok {n ax az p bx bz q : Nat} (ha : PauliOk n ax az p) (hb : PauliOk n bx bz q) :
    Ev (fun k => cubitref07_Mul.f k n ax az p n bx bz q) ((n : Int), ((ax ^^^ bx : Nat) : Int), ((az ^^^ bz : Nat) : Int), ((mulPh ax az p bx bz q n : Nat) : Int), 0) := by
  have hp := ha.hp
  have hq := hb.hp
  unfold cubitref07_Mul.f
  refine Ev.bind (refcheck_good ha) ?_
  simp only [if_true]
  refine Ev.bind (refcheck_good hb) ?_
  rw [show ((0 : Int) != 0) = false from rfl]
  refine Ev.step (fun k => ?_) (mul_loop ha hb n 0 (by omega))
  rw [cubitref07_Mul.j0]
  rw [if_neg (by decide), if_pos rfl]
  have e : wrap64 ((p : Int) + (q : Int)) = ((p + q + phs ax az bx bz 0 : Nat) : Int) := by
    show _ = ((p + q + 0 : Nat) : Int)
    unfold wrap64
    omega
  rw [e]
  rfl
theorem cnt {n x : Nat} (hx : x < 2 ^ n) (h : n ≤ 64) : bits_Count.f (x : Int) = some ((pcs n x : Nat) : Int) := by
  unfold bits_Count.f
  rw [count_n (Nat.lt_of_lt_of_le hx (Nat.pow_le_pow_right (by decide) h)), bs, pc64 hx h]
theorem mul_ok {n ax az p bx bz q : Nat} (ha : PauliOk n ax az p) (hb : PauliOk n bx bz q) :
    pauli_Mul.f n ax az p n bx bz q = some ((n : Int), ((ax ^^^ bx : Nat) : Int), ((az ^^^ bz : Nat) : Int), ((mulPh ax az p bx bz q n : Nat) : Int), 0) := by
  have hn := ha.hn; have hp := ha.hp; have hq := hb.hp
  unfold pauli_Mul.f pauli_both.f
  rw [check_good ha, bs, if_pos rfl, check_good hb, bs, if_pos rfl, if_pos rfl, bs, if_pos rfl]
  rw [and_u ha.x64 ha.z64, and_u hb.x64 hb.z64, and_u ha.z64 hb.x64, xor_u ha.x64 hb.x64, xor_u ha.z64 hb.z64, and_u (Nat.xor_lt_two_pow ha.x64 hb.x64) (Nat.xor_lt_two_pow ha.z64 hb.z64)]
  rw [cnt (Nat.and_lt_two_pow _ ha.hz) hn, bs, cnt (Nat.and_lt_two_pow _ hb.hz) hn, bs, cnt (Nat.and_lt_two_pow _ hb.hx) hn, bs, cnt (Nat.and_lt_two_pow _ (xor_lt ha.hz hb.hz)) hn, bs, and3_i]
  have h1 := pcs_le n (ax &&& az)
  have h2 := pcs_le n (bx &&& bz)
  have h3 := pcs_le n (az &&& bx)
  have h4 := pcs_le n ((ax ^^^ bx) &&& (az ^^^ bz))
  have hm := phs_mod ax az bx bz n
  refine congrArg some ?_
  refine congrArg (fun t => ((n : Int), ((ax ^^^ bx : Nat) : Int), ((az ^^^ bz : Nat) : Int), t, (0 : Int))) ?_
  unfold mulPh
  generalize pcs n (ax &&& az) = c1 at *
  generalize pcs n (bx &&& bz) = c2 at *
  generalize pcs n (az &&& bx) = c3 at *
  generalize pcs n ((ax ^^^ bx) &&& (az ^^^ bz)) = c4 at *
  generalize phs ax az bx bz n = s at *
  clear ha hb
  rw [w64 (a := (p : Int) + (c1 : Int)) (by omega), w64 (a := (p : Int) + (c1 : Int) + (q : Int)) (by omega), w64 (a := (p : Int) + (c1 : Int) + (q : Int) + (c2 : Int)) (by omega), w64 (a := 2 * (c3 : Int)) (by omega), w64 (a := (p : Int) + (c1 : Int) + (q : Int) + (c2 : Int) + 2 * (c3 : Int)) (by omega), w64 (a := (p : Int) + (c1 : Int) + (q : Int) + (c2 : Int) + 2 * (c3 : Int) - (c4 : Int)) (by omega)]
  omega
end Go.Proofs.Ytechbhjdgfcgoaa.B
