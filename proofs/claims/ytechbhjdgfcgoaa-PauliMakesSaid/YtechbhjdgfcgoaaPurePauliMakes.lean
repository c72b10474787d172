/- PauliMakes: every Eye, One and Check answers as the document's; for every whole numbers n and qubit and every byte. -/
import Derived.Test.YtechbhjdgfcgoaaPAx6
import Derived.Test.YtechbhjdgfcgoaaBitA
namespace Go.Proofs.Ytechbhjdgfcgoaa.Pure
open Go.RowKit Go.Proofs.Ytechbhjdgfcgoaa.PA Go.Proofs.Ytechbhjdgfcgoaa.B Go.Proofs.YtechbhjdgfcgoaaW.PrintWords Go.Proofs.YtechbhjdgfcgoaaW.PrintLast Go.Proofs.YtechbhjdgfcgoaaW.PrintMore
set_option linter.unusedVariables false
set_option linter.unusedSimpArgs false

theorem awake : cubitlaw07_awake.f 1 = some true := by decide +kernel

theorem check_nil : pauli_Check.f 0 0 0 0 = some 0 := by decide +kernel

theorem check_shl {q n x z : Nat} (hq : q < n) (hn : n ≤ 64) (hx : x = 0 ∨ x = 2 ^ q) (hz : z = 0 ∨ z = 2 ^ q) : pauli_Check.f (n : Int) (x : Int) (z : Int) 0 = some 0 := by
  have h64 : (2 : Nat) ^ q < 2 ^ 64 := Nat.pow_lt_pow_right (by decide) (by omega)
  have hx' : x < 2 ^ 64 := by rcases hx with rfl | rfl <;> omega
  have hz' : z < 2 ^ 64 := by rcases hz with rfl | rfl <;> omega
  have hor : x ||| z < 2 ^ n := by
    apply Nat.or_lt_two_pow
    · rcases hx with rfl | rfl
      · exact Nat.two_pow_pos n
      · exact Nat.pow_lt_pow_right (by decide) hq
    · rcases hz with rfl | rfl
      · exact Nat.two_pow_pos n
      · exact Nat.pow_lt_pow_right (by decide) hq
  have hor64 : x ||| z < 2 ^ 64 := Nat.or_lt_two_pow hx' hz'
  unfold pauli_Check.f pauli_below.f
  rw [if_neg (by omega), if_neg (by omega), if_neg (by omega), if_neg (by omega), or_u hx' hz']
  by_cases h : (n : Int) = 64
  · rw [if_pos h]; rfl
  · rw [if_neg h, if_pos (by omega), shr_u hor64, Nat.shiftRight_eq_div_pow, Nat.div_eq_of_lt hor]; rfl

theorem refcheck_eye {n : Int} (h0 : 0 ≤ n) (h1 : n ≤ 64) : cubitref07_Check.f 1 n 0 0 0 = some 0 := by
  unfold cubitref07_Check.f cubitref07_Check.j0
  rw [if_neg (by omega), if_neg (by omega), if_neg (by omega)]
  simp only [show ¬ (0 : Int) > 3 by decide, decide_false, Bool.false_eq_true, if_false]
  have hs : shr .u64 0 n = 0 := by unfold shr; exact Int.zero_ediv _
  rw [hs]
  by_cases h : n < 64
  · rw [if_pos h, if_pos h0]; rfl
  · rw [if_neg h]

theorem PauliMakes : cubitlaw07_PauliMakes.Pure := by
  intro n q c hn hq hc
  refine ⟨1, ?_⟩
  have bc := bounds_u8 hc
  unfold cubitlaw07_PauliMakes.f
  rw [awake]
  simp only [Option.bind_some, if_true]
  by_cases hr : n < 0 ∨ n > 64
  · have e1 : cubitref07_Eye.f n = some (0, 0, 0, 0, 2) := by
      unfold cubitref07_Eye.f
      rcases hr with h | h
      · rw [if_pos h]
      · rw [if_neg (by omega), if_pos h]
    have e2 : pauli_Eye.f n = some (0, 0, 0, 0, 2) := e1
    have e3 : cubitref07_One.f 1 n q c = some (0, 0, 0, 0, 2) := by unfold cubitref07_One.f; rw [e1]; rfl
    have e4 : pauli_One.f 1 n q c = some (0, 0, 0, 0, 2) := by unfold pauli_One.f; rw [e2]; rfl
    rw [e1, e2, e3, e4]
    decide +kernel
  · obtain ⟨N, rfl⟩ : ∃ N : Nat, n = (N : Int) := ⟨n.toNat, by omega⟩
    have e1 : cubitref07_Eye.f N = some ((N : Int), 0, 0, 0, 0) := by
      unfold cubitref07_Eye.f
      rw [if_neg (by omega), if_neg (by omega)]
    have e2 : pauli_Eye.f N = some ((N : Int), 0, 0, 0, 0) := e1
    have e0 : pauli_Check.f N 0 0 0 = some 0 := check_shl (q := N - 1) (n := N) (x := 0) (z := 0) |> fun f => by
      by_cases hz : N = 0
      · subst hz; exact check_nil
      · exact f (by omega) (by omega) (.inl rfl) (.inl rfl)
    have er := refcheck_eye (n := N) (by omega) (by omega)
    rw [e1, e2]
    by_cases hb : q < 0 ∨ q ≥ (N : Int) ∨ c < 88 ∨ c > 90
    · have e3 : cubitref07_One.f 1 N q c = some (0, 0, 0, 0, 2) := by
        unfold cubitref07_One.f
        rw [e1]
        simp only [Option.bind_some, if_true]
        by_cases h1 : q < 0
        · rw [if_pos h1]
        · rw [if_neg h1]
          by_cases h2 : q ≥ (N : Int)
          · rw [if_pos h2]
          · rw [if_neg h2, if_neg (by omega), if_neg (by omega), if_neg (by omega)]
      have e4 : pauli_One.f 1 N q c = some (0, 0, 0, 0, 2) := by
        unfold pauli_One.f
        rw [e2]
        simp only [Option.bind_some, if_true]
        by_cases h1 : q < 0
        · rw [if_pos h1]; rfl
        · rw [if_neg h1]
          by_cases h2 : q ≥ (N : Int)
          · rw [if_pos h2]; rfl
          · rw [if_neg h2]
            by_cases h3 : c < 88
            · rw [if_pos h3]; rfl
            · rw [if_neg h3, decide_eq_true (show c > 90 by omega)]; rfl
      rw [e3, e4]
      simp only [Option.bind_some, beq_self_eq_true, Bool.and_self, if_true, e0, er, check_nil]
    · obtain ⟨Q, rfl⟩ : ∃ Q : Nat, q = (Q : Int) := ⟨q.toNat, by omega⟩
      have hs : shl .u64 1 (Q : Int) = ((2 ^ Q : Nat) : Int) := one_shl (by omega)
      have hp : (2 : Nat) ^ Q < 2 ^ 64 := Nat.pow_lt_pow_right (by decide) (by omega)
      have ho : Go.bits .or .u64 0 ((2 ^ Q : Nat) : Int) = ((2 ^ Q : Nat) : Int) := by
        have := or_u (a := 0) (by decide) hp
        rw [Nat.zero_or] at this
        exact this
      have h1 : ¬ (Q : Int) < 0 := by omega
      have h2 : ¬ (Q : Int) ≥ (N : Int) := by omega
      have h3 : (0 : Int) ≤ (Q : Int) := by omega
      have hc3 : c = 88 ∨ c = 89 ∨ c = 90 := by omega
      have one : ∀ x z : Nat, (x = 0 ∨ x = 2 ^ Q) → (z = 0 ∨ z = 2 ^ Q) → pauli_Check.f N x z 0 = some 0 := fun x z hx hz => check_shl (q := Q) (by omega) (by omega) hx hz
      have w1 : wrap64 (wrap64 (wrap64 88 - 88) + 1) = 1 := by decide +kernel
      have w2 : wrap64 (wrap64 (wrap64 89 - 88) + 1) = 2 := by decide +kernel
      have w3 : wrap64 (wrap64 (wrap64 90 - 88) + 1) = 3 := by decide +kernel
      have c1 : pauli_Check.f (N : Int) ((2 ^ Q : Nat) : Int) 0 0 = some 0 := one (2 ^ Q) 0 (.inr rfl) (.inl rfl)
      have c2 := one (2 ^ Q) (2 ^ Q) (.inr rfl) (.inr rfl)
      have c3 : pauli_Check.f (N : Int) 0 ((2 ^ Q : Nat) : Int) 0 = some 0 := one 0 (2 ^ Q) (.inl rfl) (.inr rfl)
      unfold cubitref07_One.f pauli_One.f
      rw [e1, e2]
      simp only [Option.bind_some, if_true, if_neg h1, if_neg h2]
      rcases hc3 with rfl | rfl | rfl
      · simp only [w1, cubitref07_set.f, cubitref07_set.j0, pauli_One.j0, if_true, if_pos h3, hs, ho]
        simp only [show ¬ (88 : Int) < 88 by decide, show ¬ (88 : Int) > 90 by decide, show ¬ (88 : Int) = 90 by decide, show ¬ (1 : Int) = 2 by decide, show ¬ (1 : Int) = 3 by decide, if_false, decide_false, Bool.false_eq_true, Option.bind_some, beq_self_eq_true, Bool.and_self, if_true, e0, er]
        rw [c1]; rfl
      · simp only [w2, cubitref07_set.f, cubitref07_set.j0, pauli_One.j0, if_true, if_pos h3, hs, ho]
        simp only [show ¬ (89 : Int) < 88 by decide, show ¬ (89 : Int) > 90 by decide, show ¬ (89 : Int) = 90 by decide, show ¬ (89 : Int) = 88 by decide, show ¬ (2 : Int) = 1 by decide, show ¬ (2 : Int) = 3 by decide, hs, ho, if_pos h3, if_false, decide_false, Bool.false_eq_true, Option.bind_some, beq_self_eq_true, Bool.and_self, if_true, e0, er]
        rw [c2]; rfl
      · simp only [w3, cubitref07_set.f, cubitref07_set.j0, pauli_One.j0, if_true, if_pos h3, hs, ho]
        simp only [show ¬ (90 : Int) < 88 by decide, show ¬ (90 : Int) > 90 by decide, show ¬ (90 : Int) = 89 by decide, show ¬ (90 : Int) = 88 by decide, show ¬ (3 : Int) = 1 by decide, show ¬ (3 : Int) = 2 by decide, show ((3 : Int) == 2) = false by decide, hs, ho, if_pos h3, if_false, decide_false, Bool.false_eq_true, Option.bind_some, beq_self_eq_true, Bool.and_self, if_true, e0, er]
        rw [c3]; rfl
end Go.Proofs.Ytechbhjdgfcgoaa.Pure
