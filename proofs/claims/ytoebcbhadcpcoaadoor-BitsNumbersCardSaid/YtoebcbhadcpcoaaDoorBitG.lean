/- Close and Open, Gray and Ungray, bit by bit. -/
import Derived.Test.YtoebcbhadcpcoaaDoorBitF
import Derived.Test.YtoebcbhadcpcoaaDoorPAx9
namespace Go.Proofs.YtoebcbhadcpcoaaDoor.B
open Go Go.RowKit Go.Proofs.YtoebcbhadcpcoaaDoor.PA Go.Proofs.YtoebcbhadcpcoaaDoorW.PrintMore Go.Proofs.YtoebcbhadcpcoaaDoorW.PrintWords
set_option linter.unusedVariables false
set_option linter.unusedSimpArgs false
theorem low_n {p : Nat} (hp : p < 64) : IntKind.u64.wrap ((shl .u64 1 (p : Int)) - 1) = ((2 ^ p - 1 : Nat) : Int) ∧ 2 ^ p - 1 < 2 ^ 64 := by
  have h1 : 0 < 2 ^ p := Nat.two_pow_pos p
  have h2 : 2 ^ p < 2 ^ 64 := Nat.pow_lt_pow_right (by decide) hp
  have h3 : 2 ^ p - 1 < 2 ^ 64 := Nat.lt_of_le_of_lt (Nat.sub_le _ _) h2
  refine ⟨?_, h3⟩
  rw [one_shl hp]
  generalize 2 ^ p = q at *
  rw [show ((q : Nat) : Int) - 1 = ((q - 1 : Nat) : Int) by omega]
  exact wrapn h3
theorem half_n (x : Nat) : (x : Int) / 2 = ((x / 2 : Nat) : Int) := by omega
theorem half_lt {x : Nat} (hx : x < 2 ^ 64) : x / 2 < 2 ^ 64 := Nat.lt_of_le_of_lt (Nat.div_le_self _ _) hx
theorem close_n {x p : Nat} (hx : x < 2 ^ 64) (hp : p < 64) : ∃ u : Nat, bits_Close.f (x : Int) (p : Int) = some ((u : Int), bb (x.testBit p), 0) ∧ u < 2 ^ 64 ∧ ∀ i, u.testBit i = if i < p then x.testBit i else x.testBit (i + 1) := by
  obtain ⟨hl, hlt⟩ := low_n hp
  obtain ⟨c, hc1, hc2, hc3⟩ := andNot_u (half_lt hx) hlt
  refine ⟨(x &&& (2 ^ p - 1)) ||| c, ?_, Nat.or_lt_two_pow (and_u' hx hlt) hc2, fun i => ?_⟩
  · unfold bits_Close.f
    rw [if_neg (by omega), if_neg (by omega), if_pos (by omega), hl, half_n, hc1, and_u hx hlt, or_u (and_u' hx hlt) hc2, sh1 hx, bb_w]
  · rw [Nat.testBit_or, Nat.testBit_and, hc3, Nat.testBit_two_pow_sub_one]
    have hs : (x / 2).testBit i = x.testBit (i + 1) := (Nat.testBit_succ x i).symm
    rw [hs]
    by_cases h : i < p
    · simp [h]
    · simp [h]
theorem dbl_n {c : Nat} (hc : c < 2 ^ 64) : ∃ d : Nat, IntKind.u64.wrap ((c : Int) * 2) = (d : Int) ∧ d < 2 ^ 64 ∧ ∀ i, i < 64 → d.testBit i = (decide (0 < i) && c.testBit (i - 1)) := by
  refine ⟨2 * c % 2 ^ 64, ?_, Nat.mod_lt _ (by decide), fun i hi => ?_⟩
  · rw [wrap_u64]
    omega
  · rw [Nat.testBit_mod_two_pow]
    cases i with
    | zero => simp
    | succ i =>
      rw [Nat.testBit_succ, show 2 * c / 2 = c by omega]
      simp [hi]
theorem bb_wrap (b : Bool) : IntKind.u64.wrap (bb b) = bb b := by cases b <;> decide +kernel
theorem top_n {x : Nat} (hx : x < 2 ^ 64) : ((x : Int) / 9223372036854775808 = 1) ↔ x.testBit 63 = true := by
  rw [Nat.testBit_eq_decide_div_mod_eq, decide_eq_true_iff]
  have : (2 : Nat) ^ 63 = 9223372036854775808 := by decide
  rw [this]
  omega
theorem open_n {x p : Nat} (b : Bool) (hx : x < 2 ^ 64) (hp : p < 64) (h63 : x.testBit 63 = false) : ∃ y : Nat, (∀ k, bits_Open.f (k + 1) (x : Int) (p : Int) (bb b) = some ((y : Int), 0)) ∧ y < 2 ^ 64 ∧ ∀ i, i < 64 → y.testBit i = if i < p then x.testBit i else if i = p then b else x.testBit (i - 1) := by
  obtain ⟨hl, hlt⟩ := low_n hp
  obtain ⟨c, hc1, hc2, hc3⟩ := andNot_u hx hlt
  obtain ⟨d, hd1, hd2, hd3⟩ := dbl_n hc2
  have h1 := and_u' hx hlt
  have h2 : (x &&& (2 ^ p - 1)) ||| (if b then 2 ^ p else 0) < 2 ^ 64 := Nat.or_lt_two_pow h1 (ite_lt hp)
  refine ⟨((x &&& (2 ^ p - 1)) ||| (if b then 2 ^ p else 0)) ||| d, fun k => ?_, Nat.or_lt_two_pow h2 hd2, fun i hi => ?_⟩
  · have hb : 0 ≤ bb b ∧ bb b ≤ 1 := by cases b <;> decide
    have hn : ¬ ((x : Int) / 9223372036854775808 = 1) := by rw [top_n hx, h63]; decide
    unfold bits_Open.f bits_Open.j0
    rw [if_neg (by omega), if_neg (by omega), if_neg (by omega), decide_eq_false (by omega)]
    simp only [Bool.false_eq_true, if_false]
    rw [if_neg hn, if_pos (by omega), hl, hc1, hd1, bb_wrap, shl_bb hp, and_u hx hlt, or_u h1 (ite_lt hp), or_u h2 hd2]
  · rw [Nat.testBit_or, Nat.testBit_or, Nat.testBit_and, hd3 i hi, hc3, Nat.testBit_two_pow_sub_one, Nat.testBit_two_pow_sub_one]
    have ht : (if b = true then 2 ^ p else 0).testBit i = (b && decide (p = i)) := by
      cases b
      · simp
      · simp [Nat.testBit_two_pow]
    rw [ht]
    by_cases h : i < p
    · have h2 : ¬ p = i := by omega
      have h3 : i - 1 < p := by omega
      rw [if_pos h]
      simp [h, h2, h3]
    · by_cases h2 : i = p
      · subst h2
        rw [if_neg h, if_pos rfl]
        by_cases h0 : 0 < i
        · have h3 : i - 1 < i := by omega
          simp [h3]
        · simp [h0]
      · have h3 : ¬ p = i := fun e => h2 e.symm
        have h4 : ¬ i - 1 < p := by omega
        have h5 : 0 < i := by omega
        rw [if_neg h, if_neg h2]
        simp [h, h3, h4, h5]
theorem open_top {x p : Nat} (b : Bool) (hx : x < 2 ^ 64) (hp : p < 64) (h63 : x.testBit 63 = true) (k : Nat) : bits_Open.f (k + 1) (x : Int) (p : Int) (bb b) = some (0, 1) := by
  have hb : 0 ≤ bb b ∧ bb b ≤ 1 := by cases b <;> decide
  unfold bits_Open.f bits_Open.j0
  rw [if_neg (by omega), if_neg (by omega), if_neg (by omega), decide_eq_false (by omega)]
  simp only [Bool.false_eq_true, if_false]
  rw [if_pos ((top_n hx).2 h63)]
/-- x with itself moved by s. -/
def tw (s x : Nat) : Nat := x ^^^ (x >>> s)
theorem tw_tw (s x : Nat) : tw s (tw s x) = tw (2 * s) x := by
  unfold tw
  refine Nat.eq_of_testBit_eq (fun i => ?_)
  simp only [Nat.testBit_xor, Nat.testBit_shiftRight]
  rw [show s + (s + i) = 2 * s + i by omega]
  cases x.testBit i <;> cases x.testBit (s + i) <;> cases x.testBit (2 * s + i) <;> rfl
theorem tw_comm (s t x : Nat) : tw s (tw t x) = tw t (tw s x) := by
  unfold tw
  refine Nat.eq_of_testBit_eq (fun i => ?_)
  simp only [Nat.testBit_xor, Nat.testBit_shiftRight]
  rw [show t + (s + i) = s + (t + i) by omega]
  cases x.testBit i <;> cases x.testBit (s + i) <;> cases x.testBit (t + i) <;> cases x.testBit (s + (t + i)) <;> rfl
theorem tw_lt {s x : Nat} (hx : x < 2 ^ 64) : tw s x < 2 ^ 64 := Nat.xor_lt_two_pow hx (Nat.lt_of_le_of_lt (by rw [Nat.shiftRight_eq_div_pow]; exact Nat.div_le_self _ _) hx)
theorem tw_64 {x : Nat} (hx : x < 2 ^ 64) : tw 64 x = x := by
  unfold tw
  rw [Nat.shiftRight_eq_div_pow, Nat.div_eq_of_lt hx, Nat.xor_zero]
theorem gray_n {x : Nat} (hx : x < 2 ^ 64) : bits_Gray.f (x : Int) = some ((tw 1 x : Nat) : Int) := by
  unfold bits_Gray.f
  rw [half_n, xor_u hx (half_lt hx)]
  rfl
def ung (x : Nat) : Nat := tw 32 (tw 16 (tw 8 (tw 4 (tw 2 (tw 1 x)))))
theorem ung_lt {x : Nat} (hx : x < 2 ^ 64) : ung x < 2 ^ 64 := tw_lt (tw_lt (tw_lt (tw_lt (tw_lt (tw_lt hx)))))
theorem ungray_n {x : Nat} (hx : x < 2 ^ 64) : Ev (fun k => bits_Ungray.f k (x : Int)) ((ung x : Nat) : Int) := by
  have step : ∀ (y s : Nat), y < 2 ^ 64 → s < 64 → ∀ k, bits_Ungray.l0 (k + 1) (y : Int) (s : Int) = bits_Ungray.l0 k ((tw s y : Nat) : Int) ((2 * s : Nat) : Int) := by
    intro y s hy hs k
    have h2 : (y >>> s) < 2 ^ 64 := Nat.lt_of_le_of_lt (by rw [Nat.shiftRight_eq_div_pow]; exact Nat.div_le_self _ _) hy
    have hw : wrap64 ((s : Int) * 2) = ((2 * s : Nat) : Int) := by unfold wrap64; omega
    simp only [bits_Ungray.l0]
    rw [if_pos (by omega), if_pos (by omega), shr_u hy, xor_u hy h2, hw]
    rfl
  unfold bits_Ungray.f
  refine Ev.step (step x 1 hx (by decide)) (Ev.step (step _ 2 (tw_lt hx) (by decide)) (Ev.step (step _ 4 (tw_lt (tw_lt hx)) (by decide)) (Ev.step (step _ 8 (tw_lt (tw_lt (tw_lt hx))) (by decide)) (Ev.step (step _ 16 (tw_lt (tw_lt (tw_lt (tw_lt hx)))) (by decide)) (Ev.step (step _ 32 (tw_lt (tw_lt (tw_lt (tw_lt (tw_lt hx))))) (by decide)) ?_)))))
  refine Ev.step (f := fun _ => some ((ung x : Nat) : Int)) (fun k => ?_) (Ev.now _)
  simp only [bits_Ungray.l0]
  rw [if_neg (by decide)]
  rfl
theorem ung_gray {x : Nat} (hx : x < 2 ^ 64) : ung (tw 1 x) = x := by
  unfold ung
  rw [tw_tw, tw_tw, tw_tw, tw_tw, tw_tw, tw_tw]
  exact tw_64 hx
theorem gray_ung {x : Nat} (hx : x < 2 ^ 64) : tw 1 (ung x) = x := by
  unfold ung
  rw [tw_comm 1 32, tw_comm 1 16, tw_comm 1 8, tw_comm 1 4, tw_comm 1 2, tw_tw, tw_tw, tw_tw, tw_tw, tw_tw, tw_tw]
  exact tw_64 hx
/-- A number and the next one part in the lowest ones. -/
theorem xor_succ : ∀ x : Nat, ∃ t, x ^^^ (x + 1) = 2 ^ (t + 1) - 1 := by
  intro x
  induction x using Nat.strongRecOn with
  | _ x ih =>
    have key : ∀ a b : Nat, a ^^^ b = 2 * ((a / 2) ^^^ (b / 2)) + (a % 2 + b % 2) % 2 := by
      intro a b
      have h1 : (a ^^^ b) / 2 = (a / 2) ^^^ (b / 2) := by
        have := Nat.xor_div_two_pow (a := a) (b := b) (n := 1)
        simpa using this
      have h2 : (a ^^^ b) % 2 = (a % 2 + b % 2) % 2 := by
        have := Nat.xor_mod_two_pow (a := a) (b := b) (n := 1)
        rw [Nat.pow_one] at this
        rw [this]
        have h3 := Nat.mod_lt a (show 2 > 0 by decide)
        have h4 := Nat.mod_lt b (show 2 > 0 by decide)
        have h5 : a % 2 = 0 ∨ a % 2 = 1 := by omega
        have h6 : b % 2 = 0 ∨ b % 2 = 1 := by omega
        rcases h5 with h | h <;> rcases h6 with h' | h' <;> rw [h, h'] <;> rfl
      omega
    by_cases h : x % 2 = 0
    · refine ⟨0, ?_⟩
      rw [key, show (x + 1) / 2 = x / 2 by omega, Nat.xor_self]
      omega
    · obtain ⟨t, ht⟩ := ih (x / 2) (by omega)
      refine ⟨t + 1, ?_⟩
      rw [key, show (x + 1) / 2 = x / 2 + 1 by omega, ht]
      have h1 : 0 < 2 ^ (t + 1) := Nat.two_pow_pos _
      rw [show 2 ^ (t + 1 + 1) = 2 * 2 ^ (t + 1) by rw [Nat.pow_succ]; omega]
      generalize 2 ^ (t + 1) = q at *
      omega
theorem pcs_pow {p : Nat} (hp : p < 64) : pc 64 (2 ^ p) = 1 := by
  rw [pc_pcs]
  have := pcs_or (x := 0) (p := p) (by simp) 64
  rw [Nat.zero_or, if_pos hp, ← pc_pcs 64 0, pc_zero] at this
  exact this
theorem gray_next {x : Nat} (hx : x + 1 < 2 ^ 64) : pc 64 (tw 1 x ^^^ tw 1 (x + 1)) = 1 := by
  obtain ⟨t, ht⟩ := xor_succ x
  have hlt : x ^^^ (x + 1) < 2 ^ 64 := Nat.xor_lt_two_pow (by omega) hx
  have ht64 : t < 64 := by
    rcases Nat.lt_or_ge t 64 with h | h
    · exact h
    · exfalso
      have h2 : 2 ^ 65 ≤ 2 ^ (t + 1) := Nat.pow_le_pow_right (by decide) (by omega)
      rw [ht] at hlt
      have h3 : (2 : Nat) ^ 65 = 36893488147419103232 := by decide
      omega
  have e : tw 1 x ^^^ tw 1 (x + 1) = 2 ^ t := by
    have e1 : tw 1 x ^^^ tw 1 (x + 1) = tw 1 (x ^^^ (x + 1)) := by
      unfold tw
      refine Nat.eq_of_testBit_eq (fun i => ?_)
      simp only [Nat.testBit_xor, Nat.testBit_shiftRight]
      cases x.testBit i <;> cases x.testBit (1 + i) <;> cases (x + 1).testBit i <;> cases (x + 1).testBit (1 + i) <;> rfl
    rw [e1, ht]
    unfold tw
    refine Nat.eq_of_testBit_eq (fun i => ?_)
    rw [Nat.testBit_xor, Nat.testBit_shiftRight, Nat.testBit_two_pow_sub_one, Nat.testBit_two_pow_sub_one, Nat.testBit_two_pow]
    by_cases h1 : i < t
    · have h2 : ¬ t = i := by omega
      simp [show i < t + 1 by omega, show 1 + i < t + 1 by omega, h2]
    · by_cases h2 : t = i
      · subst h2
        simp
        omega
      · simp [show ¬ i < t + 1 by omega, show ¬ 1 + i < t + 1 by omega, h2]
  rw [e]
  exact pcs_pow ht64
end Go.Proofs.YtoebcbhadcpcoaaDoor.B
