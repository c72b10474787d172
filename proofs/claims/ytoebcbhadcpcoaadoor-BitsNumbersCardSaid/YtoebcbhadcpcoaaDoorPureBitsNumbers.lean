/- BitsNumbers: Count, Parity, Low, Gray, Ungray, Close, Swap and Open answer as the reference does, for all words, places and bits. -/
import Derived.Test.YtoebcbhadcpcoaaDoorPureBitsBack
import Derived.Test.YtoebcbhadcpcoaaDoorPAx13
namespace Go.Proofs.YtoebcbhadcpcoaaDoor.Pure
open Go.RowKit Go.Proofs.YtoebcbhadcpcoaaDoor.PA Go.Proofs.YtoebcbhadcpcoaaDoor.B Go.Proofs.YtoebcbhadcpcoaaDoorW.PrintWords Go.Proofs.YtoebcbhadcpcoaaDoorW.PrintLast Go.Proofs.YtoebcbhadcpcoaaDoorW.PrintMore
set_option linter.unusedVariables false
set_option linter.unusedSimpArgs false
attribute [local irreducible] pc
theorem count_is {x : Nat} (hx : x < 2 ^ 64) : bits_Count.f (x : Int) = some ((pc 64 x : Nat) : Int) := by
  unfold bits_Count.f
  rw [count_n hx, Option.bind_some]
theorem refcount_loop {x : Nat} (hx : x < 2 ^ 64) : ∀ (n i : Nat), 64 - i ≤ n → i ≤ 64 → Ev (fun k => cubitref03_Count.l0 k (x : Int) ((pcs i x : Nat) : Int) (i : Int)) ((pcs 64 x : Nat) : Int) := by
  have fin : ∀ i : Nat, i = 64 → Ev (fun k => cubitref03_Count.l0 k (x : Int) ((pcs i x : Nat) : Int) (i : Int)) ((pcs 64 x : Nat) : Int) := by
    intro i hi
    subst hi
    refine Ev.step (f := fun _ => some ((pcs 64 x : Nat) : Int)) (fun k => ?_) (Ev.now _)
    simp only [cubitref03_Count.l0]
    rw [if_neg (by omega)]
  intro n
  induction n with
  | zero => intro i h1 h2; exact fin i (by omega)
  | succ n ih =>
    intro i h1 h2
    by_cases hi : i < 64
    · refine Ev.step (fun k => ?_) (ih (i + 1) (by omega) (by omega))
      have hle := pcs_le i x
      have hs : pcs (i + 1) x = pcs i x + (if x.testBit i then 1 else 0) := rfl
      have hw : wrap64 (((pcs i x : Nat) : Int) + bb (x.testBit i)) = ((pcs (i + 1) x : Nat) : Int) := by
        rw [hs, bb_nat]
        cases x.testBit i
        · simp only [Bool.false_eq_true, if_false]; unfold wrap64; omega
        · simp only [if_true]; unfold wrap64; omega
      simp only [cubitref03_Count.l0]
      rw [if_pos (by omega), bit_n hx (by omega)]
      rw [Option.bind_some, hw, w1n hi (by decide)]
    · exact fin i (by omega)
theorem refcount_ev {x : Nat} (hx : x < 2 ^ 64) : Ev (fun k => cubitref03_Count.f k (x : Int)) ((pc 64 x : Nat) : Int) := by
  rw [pc_pcs]
  unfold cubitref03_Count.f
  exact refcount_loop hx 64 0 (by omega) (by omega)
theorem odd_is : ∀ n : Fin 65, Go.bits .and .i64 ((n.1 : Nat) : Int) 1 = Int.tmod ((n.1 : Nat) : Int) 2 := by decide +kernel
theorem parity_is {x : Nat} (hx : x < 2 ^ 64) : bits_Parity.f (x : Int) = some (Int.tmod ((pc 64 x : Nat) : Int) 2) := by
  unfold bits_Parity.f
  rw [count_n hx, Option.bind_some]
  have h : pc 64 x < 65 := by have := pcs_le 64 x; rw [← pc_pcs] at this; omega
  exact congrArg some (odd_is ⟨pc 64 x, h⟩)
theorem refparity_ev {x : Nat} (hx : x < 2 ^ 64) : Ev (fun k => cubitref03_Parity.f k (x : Int)) (Int.tmod ((pc 64 x : Nat) : Int) 2) := by
  unfold cubitref03_Parity.f
  exact Ev.bind (refcount_ev hx) (Ev.now _)
/-- The lowest one. -/
theorem ctz_spec {x : Nat} (hx : x < 2 ^ 64) (h0 : x ≠ 0) : Lib.ctz 64 x < 64 ∧ x.testBit (Lib.ctz 64 x) = true ∧ ∀ j, j < Lib.ctz 64 x → x.testBit j = false := by
  obtain ⟨m, hm, hk⟩ := Lib.ctzFrom_spec 64 x (by omega) hx
  have e : Lib.ctz 64 x = Lib.ctzFrom 64 x := by simp [Lib.ctz, h0]
  rw [e]
  generalize Lib.ctzFrom 64 x = c at *
  subst hm
  refine ⟨hk, ?_, fun j hj => ?_⟩
  · rw [Nat.testBit_two_pow_mul, decide_eq_true (by omega), Nat.sub_self, Nat.testBit_zero]
    simp
  · rw [Nat.testBit_two_pow_mul, decide_eq_false (by omega)]
    rfl
theorem reflow_loop {x : Nat} (hx : x < 2 ^ 64) : ∀ (n i : Nat), 64 - i ≤ n → i ≤ 64 → (∀ j, j < i → x.testBit j = false) → Ev (fun k => cubitref03_Low.l0 k (x : Int) (i : Int)) ((Lib.ctz 64 x : Nat) : Int) := by
  have fin : ∀ i : Nat, i = 64 → (∀ j, j < i → x.testBit j = false) → Ev (fun k => cubitref03_Low.l0 k (x : Int) (i : Int)) ((Lib.ctz 64 x : Nat) : Int) := by
    intro i hi hj
    subst hi
    have h0 : x = 0 := word_ext hx (by decide) (fun j h => by rw [hj j h, Nat.zero_testBit])
    subst h0
    refine Ev.step (f := fun _ => some 64) (fun k => ?_) (Ev.now _)
    simp only [cubitref03_Low.l0]
    rw [if_neg (by omega)]
  intro n
  induction n with
  | zero => intro i h1 h2 hj; exact fin i (by omega) hj
  | succ n ih =>
    intro i h1 h2 hj
    by_cases hi : i < 64
    · cases hb : x.testBit i with
      | true =>
        have h0 : x ≠ 0 := by intro e; rw [e, Nat.zero_testBit] at hb; cases hb
        obtain ⟨c1, c2, c3⟩ := ctz_spec hx h0
        have hc : Lib.ctz 64 x = i := by
          rcases Nat.lt_trichotomy (Lib.ctz 64 x) i with h | h | h
          · rw [hj _ h] at c2; cases c2
          · exact h
          · rw [c3 i h] at hb; cases hb
        rw [hc]
        refine Ev.step (f := fun _ => some (i : Int)) (fun k => ?_) (Ev.now _)
        simp only [cubitref03_Low.l0]
        rw [if_pos (by omega), bit_n hx (by omega), hb]
        rw [Option.bind_some, if_pos (show bb true = 1 from rfl)]
      | false =>
        refine Ev.step (fun k => ?_) (ih (i + 1) (by omega) (by omega) (fun j h => ?_))
        · simp only [cubitref03_Low.l0]
          rw [if_pos (by omega), bit_n hx (by omega), hb]
          rw [Option.bind_some, if_neg (by decide), w1n hi (by decide)]
        · by_cases h6 : j < i
          · exact hj j h6
          · obtain rfl : j = i := by omega
            exact hb
    · exact fin i (by omega) hj
theorem low_is {x : Nat} (hx : x < 2 ^ 64) : lowAll.f (x : Int) = some ((Lib.ctz 64 x : Nat) : Int) := by
  unfold lowAll.f
  rw [if_pos (by omega), Int.toNat_natCast]
/-- Gray. -/
theorem mod_bb (a b : Bool) : Int.tmod (wrap64 (bb a + bb b)) 2 = bb (a ^^ b) := by cases a <;> cases b <;> decide +kernel
theorem tw_bit (x i : Nat) : (tw 1 x).testBit i = (x.testBit i ^^ x.testBit (i + 1)) := by
  unfold tw
  rw [Nat.testBit_xor, Nat.testBit_shiftRight, Nat.add_comm]
theorem refgray_loop {x : Nat} (hx : x < 2 ^ 64) : ∀ (n i : Nat), 64 - i ≤ n → i ≤ 64 → Ev (fun k => cubitref03_Gray.l0 k (x : Int) ((ofB (fun j => (tw 1 x).testBit j) i : Nat) : Int) (i : Int)) ((tw 1 x : Nat) : Int) := by
  have fin : ∀ i : Nat, i = 64 → Ev (fun k => cubitref03_Gray.l0 k (x : Int) ((ofB (fun j => (tw 1 x).testBit j) i : Nat) : Int) (i : Int)) ((tw 1 x : Nat) : Int) := by
    intro i hi
    subst hi
    have e : ofB (fun j => (tw 1 x).testBit j) 64 = tw 1 x := word_ext (ofB_lt _ _ (Nat.le_refl _)) (tw_lt hx) (fun j h => by rw [testBit_ofB, decide_eq_true h]; rfl)
    rw [e]
    refine Ev.step (f := fun _ => some ((tw 1 x : Nat) : Int)) (fun k => ?_) (Ev.now _)
    simp only [cubitref03_Gray.l0]
    rw [if_neg (by omega)]
  intro n
  induction n with
  | zero => intro i h1 h2; exact fin i (by omega)
  | succ n ih =>
    intro i h1 h2
    by_cases hi : i < 64
    · refine Ev.step (fun k => ?_) (ih (i + 1) (by omega) (by omega))
      have hlt := ofB_lt (fun j => (tw 1 x).testBit j) i (by omega)
      simp only [cubitref03_Gray.l0]
      rw [if_pos (by omega), bit_n hx (by omega), Option.bind_some]
      by_cases h63 : i < 63
      · rw [if_pos (by omega), w1n hi (by decide), bit_n hx (by omega), Option.bind_some, mod_bb, ← tw_bit, set_n hlt hi, Option.bind_some, ofB_succ]
      · have h64 : x.testBit (i + 1) = false := bit_ge hx (by omega)
        have e : x.testBit i = (tw 1 x).testBit i := by rw [tw_bit, h64, Bool.xor_false]
        rw [if_neg (by omega), e, set_n hlt hi, Option.bind_some, ofB_succ, w1n hi (by decide)]
    · exact fin i (by omega)
/-- Ungray, from above. -/
def acc (x : Nat) : Nat → Bool
  | 0 => false
  | n + 1 => acc x n ^^ x.testBit (63 - n)
def V (x n : Nat) : Nat := ofB (fun i => decide (64 - n ≤ i) && acc x (64 - i)) 64
theorem V_lt (x n : Nat) : V x n < 2 ^ 64 := ofB_lt _ _ (Nat.le_refl _)
theorem V_zero (x : Nat) : V x 0 = 0 := by
  refine word_ext (V_lt x 0) (by decide) (fun i hi => ?_)
  unfold V
  rw [testBit_ofB, Nat.zero_testBit, decide_eq_false (show ¬ 64 - 0 ≤ i by omega), Bool.false_and, Bool.and_false]
theorem V_next {x n : Nat} (hn : n < 64) : setB (V x n) (63 - n) (acc x (n + 1)) = V x (n + 1) := by
  refine Nat.eq_of_testBit_eq (fun i => ?_)
  rw [testBit_setB]
  unfold V
  rw [testBit_ofB, testBit_ofB]
  by_cases h : i = 63 - n
  · rw [if_pos h, decide_eq_true (show i < 64 by omega), decide_eq_true (show 64 - (n + 1) ≤ i by omega), show 64 - i = n + 1 by omega]
    rfl
  · rw [if_neg h]
    by_cases h2 : 64 - n ≤ i
    · rw [decide_eq_true h2, decide_eq_true (show 64 - (n + 1) ≤ i by omega)]
    · rw [decide_eq_false h2, decide_eq_false (show ¬ 64 - (n + 1) ≤ i by omega)]
theorem V_all {x : Nat} (hx : x < 2 ^ 64) : V x 64 = ung x := by
  have h : tw 1 (V x 64) = x := by
    refine word_ext (tw_lt (V_lt x 64)) hx (fun i hi => ?_)
    rw [tw_bit]
    unfold V
    rw [testBit_ofB, testBit_ofB, decide_eq_true hi, decide_eq_true (show 64 - 64 ≤ i by omega), decide_eq_true (show 64 - 64 ≤ i + 1 by omega), Bool.true_and, Bool.true_and, Bool.true_and, show 64 - i = (63 - i) + 1 by omega]
    have e : acc x (63 - i + 1) = (acc x (63 - i) ^^ x.testBit (63 - (63 - i))) := rfl
    rw [e, show 63 - (63 - i) = i by omega]
    by_cases h : i + 1 < 64
    · rw [decide_eq_true h, Bool.true_and, show 64 - (i + 1) = 63 - i by omega]
      cases acc x (63 - i) <;> cases x.testBit i <;> rfl
    · rw [decide_eq_false h, Bool.false_and, show 63 - i = 0 by omega]
      show ((false ^^ x.testBit i) ^^ false) = _
      cases x.testBit i <;> rfl
  have := ung_gray (V_lt x 64)
  rw [h] at this
  exact this.symm
theorem refungray_loop {x : Nat} (hx : x < 2 ^ 64) : ∀ (t n : Nat), 64 - n ≤ t → n ≤ 64 → Ev (fun k => cubitref03_Ungray.l0 k (x : Int) ((V x n : Nat) : Int) (bb (acc x n)) (63 - (n : Int))) ((ung x : Nat) : Int) := by
  have fin : ∀ n : Nat, n = 64 → Ev (fun k => cubitref03_Ungray.l0 k (x : Int) ((V x n : Nat) : Int) (bb (acc x n)) (63 - (n : Int))) ((ung x : Nat) : Int) := by
    intro n hn
    subst hn
    rw [V_all hx]
    refine Ev.step (f := fun _ => some ((ung x : Nat) : Int)) (fun k => ?_) (Ev.now _)
    simp only [cubitref03_Ungray.l0]
    rw [if_neg (by omega)]
  intro t
  induction t with
  | zero => intro n h1 h2; exact fin n (by omega)
  | succ t ih =>
    intro n h1 h2
    by_cases hn : n < 64
    · refine Ev.step (fun k => ?_) (ih (n + 1) (by omega) (by omega))
      have e1 : (63 : Int) - (n : Int) = ((63 - n : Nat) : Int) := by omega
      have e2 : wrap64 (((63 - n : Nat) : Int) - 1) = 63 - ((n + 1 : Nat) : Int) := by unfold wrap64; omega
      have e3 : (acc x n ^^ x.testBit (63 - n)) = acc x (n + 1) := rfl
      simp only [cubitref03_Ungray.l0]
      rw [e1, if_pos (by omega), bit_n hx (by omega), Option.bind_some, mod_bb, e3, set_n (V_lt x n) (by omega), Option.bind_some, V_next hn, e2]
    · exact fin n (by omega)
theorem refungray_ev {x : Nat} (hx : x < 2 ^ 64) : Ev (fun k => cubitref03_Ungray.f k (x : Int)) ((ung x : Nat) : Int) := by
  have := refungray_loop hx 64 0 (by omega) (by omega)
  rw [V_zero] at this
  unfold cubitref03_Ungray.f
  exact this
/-- Close. -/
def cl (x p i : Nat) : Bool := if i < p then x.testBit i else x.testBit (i + 1)
theorem refclose_loop {x p : Nat} (hx : x < 2 ^ 64) (hp : p < 64) : ∀ (n i : Nat), 63 - i ≤ n → i ≤ 63 → Ev (fun k => cubitref03_Close.l0 k (x : Int) (p : Int) ((ofB (cl x p) i : Nat) : Int) (i : Int)) (((ofB (cl x p) 63 : Nat) : Int), bb (x.testBit p), 0) := by
  have fin : ∀ i : Nat, i = 63 → Ev (fun k => cubitref03_Close.l0 k (x : Int) (p : Int) ((ofB (cl x p) i : Nat) : Int) (i : Int)) (((ofB (cl x p) 63 : Nat) : Int), bb (x.testBit p), 0) := by
    intro i hi
    subst hi
    refine Ev.step (f := fun _ => some (((ofB (cl x p) 63 : Nat) : Int), bb (x.testBit p), 0)) (fun k => ?_) (Ev.now _)
    simp only [cubitref03_Close.l0]
    rw [if_neg (by omega), bit_n hx (by omega), Option.bind_some]
  intro n
  induction n with
  | zero => intro i h1 h2; exact fin i (by omega)
  | succ n ih =>
    intro i h1 h2
    by_cases hi : i < 63
    · refine Ev.step (fun k => ?_) (ih (i + 1) (by omega) (by omega))
      have hlt := ofB_lt (cl x p) i (by omega)
      simp only [cubitref03_Close.l0]
      rw [if_pos (by omega)]
      by_cases h : i < p
      · have e : x.testBit i = cl x p i := by unfold cl; rw [if_pos h]
        rw [if_pos (by omega), bit_n hx (by omega), Option.bind_some, e, set_n hlt (by omega), Option.bind_some, ofB_succ, w1n hi (by decide)]
      · have e : x.testBit (i + 1) = cl x p i := by unfold cl; rw [if_neg h]
        rw [if_neg (by omega), w1n hi (by decide), bit_n hx (by omega), Option.bind_some, e, set_n hlt (by omega), Option.bind_some, ofB_succ]
    · exact fin i (by omega)
theorem closes {x : Nat} (hx : x < 2 ^ 64) (i : Int) : ∃ r : Int × Int × Int, Ev (fun k => cubitref03_Close.f k (x : Int) i) r ∧ bits_Close.f (x : Int) i = some r := by
  by_cases hr : i < 0 ∨ i > 63
  · refine ⟨(0, 0, 2), ?_, ?_⟩
    · have h0 : Ev (fun k => cubitref03_Close.j0 k (x : Int) i true) (0, 0, 2) := by
        refine Ev.step (f := fun _ => some (0, 0, 2)) (fun k => ?_) (Ev.now _)
        simp only [cubitref03_Close.j0, if_true]
      unfold cubitref03_Close.f
      rcases hr with h | h
      · exact Ev.congr (fun k => by rw [if_pos h]) h0
      · exact Ev.congr (fun k => by rw [if_neg (by omega), decide_eq_true h]) h0
    · unfold bits_Close.f
      rcases hr with h | h
      · rw [if_pos h]
      · rw [if_neg (by omega), if_pos h]
  · obtain ⟨p, rfl⟩ : ∃ p : Nat, i = (p : Int) := ⟨i.toNat, by omega⟩
    have hp : p < 64 := by omega
    obtain ⟨u, h1, h2, h3⟩ := close_n hx hp
    have hu : u = ofB (cl x p) 63 := by
      refine word_ext h2 (ofB_lt _ _ (by decide)) (fun j hj => ?_)
      rw [h3, testBit_ofB]
      by_cases h : j < 63
      · rw [decide_eq_true h]
        rfl
      · rw [decide_eq_false h, if_neg (by omega)]
        exact bit_ge hx (by omega)
    refine ⟨_, ?_, h1⟩
    rw [hu]
    have h0 : Ev (fun k => cubitref03_Close.j0 k (x : Int) (p : Int) false) (((ofB (cl x p) 63 : Nat) : Int), bb (x.testBit p), 0) := by
      refine Ev.step (fun k => ?_) (refclose_loop hx hp 63 0 (by omega) (by omega))
      simp only [cubitref03_Close.j0, Bool.false_eq_true, if_false]
      rfl
    unfold cubitref03_Close.f
    exact Ev.congr (fun k => by rw [if_neg (by omega), decide_eq_false (by omega)]) h0
/-- Swap. -/
theorem swaps {x : Nat} (hx : x < 2 ^ 64) (i j : Int) : ∃ r : Int × Int, Ev (fun k => cubitref03_Swap.f k (x : Int) i j) r ∧ Ev (fun k => bits_Swap.f k (x : Int) i j) r := by
  unfold cubitref03_Swap.f bits_Swap.f
  by_cases hr : i < 0 ∨ i > 63 ∨ j < 0 ∨ j > 63
  · refine ⟨(0, 2), ?_, ?_⟩
    · have h0 : Ev (fun k => cubitref03_Swap.j0 k (x : Int) i j true) (0, 2) := by
        refine Ev.step (f := fun _ => some (0, 2)) (fun k => ?_) (Ev.now _)
        simp only [cubitref03_Swap.j0, if_true]
      refine Ev.congr (fun k => ?_) h0
      by_cases c1 : i < 0
      · rw [if_pos c1]
      · by_cases c2 : i > 63
        · rw [if_neg c1, if_pos c2]
        · by_cases c3 : j < 0
          · rw [if_neg c1, if_neg c2, if_pos c3]
          · rw [if_neg c1, if_neg c2, if_neg c3, decide_eq_true (by omega)]
    · have h0 : Ev (fun k => bits_Swap.j0 k (x : Int) i j true) (0, 2) := by
        refine Ev.step (f := fun _ => some (0, 2)) (fun k => ?_) (Ev.now _)
        simp only [bits_Swap.j0, if_true]
      refine Ev.congr (fun k => ?_) h0
      by_cases c1 : i < 0
      · rw [if_pos c1]
      · by_cases c2 : i > 63
        · rw [if_neg c1, if_pos c2]
        · by_cases c3 : j < 0
          · rw [if_neg c1, if_neg c2, if_pos c3]
          · rw [if_neg c1, if_neg c2, if_neg c3, decide_eq_true (by omega)]
  · obtain ⟨p, rfl⟩ : ∃ p : Nat, i = (p : Int) := ⟨i.toNat, by omega⟩
    obtain ⟨q, rfl⟩ : ∃ q : Nat, j = (q : Int) := ⟨j.toNat, by omega⟩
    have hp : p < 64 := by omega
    have hq : q < 64 := by omega
    have h1 : setB x p (x.testBit q) < 2 ^ 64 := setB_lt hx hp
    refine ⟨(((setB (setB x p (x.testBit q)) q (x.testBit p) : Nat) : Int), 0), ?_, ?_⟩
    · have h0 : Ev (fun k => cubitref03_Swap.j0 k (x : Int) (p : Int) (q : Int) false) (((setB (setB x p (x.testBit q)) q (x.testBit p) : Nat) : Int), 0) := by
        refine Ev.step (f := fun _ => some (((setB (setB x p (x.testBit q)) q (x.testBit p) : Nat) : Int), 0)) (fun k => ?_) (Ev.now _)
        simp only [cubitref03_Swap.j0, Bool.false_eq_true, if_false]
        rw [bit_n hx (by omega), Option.bind_some, bit_n hx (by omega), Option.bind_some, set_n hx hp, Option.bind_some, set_n h1 hq, Option.bind_some]
      exact Ev.congr (fun k => by rw [if_neg (by omega), if_neg (by omega), if_neg (by omega), decide_eq_false (by omega)]) h0
    · have h0 : Ev (fun k => bits_Swap.j0 k (x : Int) (p : Int) (q : Int) false) (((setB (setB x p (x.testBit q)) q (x.testBit p) : Nat) : Int), 0) := by
        refine Ev.step (f := fun _ => some (((setB (setB x p (x.testBit q)) q (x.testBit p) : Nat) : Int), 0)) (fun k => ?_) (Ev.now _)
        simp only [bits_Swap.j0, Bool.false_eq_true, if_false]
        rw [if_pos (by omega), if_pos (by omega), sh1 hx, sh1 hx]
        by_cases hb : x.testBit p = x.testBit q
        · have e : setB (setB x p (x.testBit q)) q (x.testBit p) = x := by
            refine Nat.eq_of_testBit_eq (fun m => ?_)
            rw [testBit_setB, testBit_setB]
            by_cases m1 : m = q
            · rw [if_pos m1, m1, hb]
            · rw [if_neg m1]
              by_cases m2 : m = p
              · rw [if_pos m2, m2, hb]
              · rw [if_neg m2]
          rw [if_pos (by rw [hb]), e]
        · have hpl : (2 : Nat) ^ p < 2 ^ 64 := Nat.pow_lt_pow_right (by decide) hp
          have hql : (2 : Nat) ^ q < 2 ^ 64 := Nat.pow_lt_pow_right (by decide) hq
          have hne : p ≠ q := fun e => hb (by rw [e])
          have e : x ^^^ (2 ^ p ||| 2 ^ q) = setB (setB x p (x.testBit q)) q (x.testBit p) := by
            refine Nat.eq_of_testBit_eq (fun m => ?_)
            rw [testBit_setB, testBit_setB, Nat.testBit_xor, Nat.testBit_or, Nat.testBit_two_pow, Nat.testBit_two_pow]
            by_cases m1 : m = q
            · rw [if_pos m1, m1, decide_eq_true rfl, Bool.or_true]
              revert hb
              cases x.testBit p <;> cases x.testBit q <;> simp
            · rw [if_neg m1, decide_eq_false (show ¬ q = m from fun e => m1 e.symm), Bool.or_false]
              by_cases m2 : m = p
              · rw [if_pos m2, m2, decide_eq_true rfl]
                revert hb
                cases x.testBit p <;> cases x.testBit q <;> simp
              · rw [if_neg m2, decide_eq_false (show ¬ p = m from fun e => m2 e.symm), Bool.xor_false]
          rw [if_neg (fun h => hb ((bb_eq _ _).mp h)), one_shl hp, one_shl hq, or_u hpl hql, xor_u hx (Nat.or_lt_two_pow hpl hql), e]
      exact Ev.congr (fun k => by rw [if_neg (by omega), if_neg (by omega), if_neg (by omega), decide_eq_false (by omega)]) h0
/-- Open. -/
def op (x p : Nat) (b : Bool) (i : Nat) : Bool := if i < p then x.testBit i else if i = p then b else x.testBit (i - 1)
theorem refopen_loop {x p : Nat} {b : Bool} (hx : x < 2 ^ 64) (hp : p < 64) : ∀ (n i : Nat), 64 - i ≤ n → i ≤ 64 → Ev (fun k => cubitref03_Open.l0 k (x : Int) (p : Int) (bb b) ((ofB (op x p b) i : Nat) : Int) (i : Int)) (((ofB (op x p b) 64 : Nat) : Int), 0) := by
  have fin : ∀ i : Nat, i = 64 → Ev (fun k => cubitref03_Open.l0 k (x : Int) (p : Int) (bb b) ((ofB (op x p b) i : Nat) : Int) (i : Int)) (((ofB (op x p b) 64 : Nat) : Int), 0) := by
    intro i hi
    subst hi
    refine Ev.step (f := fun _ => some (((ofB (op x p b) 64 : Nat) : Int), 0)) (fun k => ?_) (Ev.now _)
    simp only [cubitref03_Open.l0]
    rw [if_neg (by omega)]
  intro n
  induction n with
  | zero => intro i h1 h2; exact fin i (by omega)
  | succ n ih =>
    intro i h1 h2
    by_cases hi : i < 64
    · refine Ev.step (fun k => ?_) (ih (i + 1) (by omega) (by omega))
      have hlt := ofB_lt (op x p b) i (by omega)
      simp only [cubitref03_Open.l0]
      rw [if_pos (by omega)]
      by_cases h : i < p
      · have e : x.testBit i = op x p b i := by unfold op; rw [if_pos h]
        rw [if_pos (by omega), bit_n hx (by omega), Option.bind_some, e, set_n hlt (by omega), Option.bind_some, ofB_succ, w1n hi (by decide)]
      · by_cases h2 : i = p
        · have e : b = op x p b i := by unfold op; rw [if_neg h, if_pos h2]
          have hs : cubitref03_set.f ((ofB (op x p b) i : Nat) : Int) (i : Int) (bb b) = some ((ofB (op x p b) (i + 1) : Nat) : Int) := by
            rw [set_n hlt hi, ofB_succ, ← e]
          rw [if_neg (by omega), if_pos (by omega), hs, Option.bind_some, w1n hi (by decide)]
        · have e : x.testBit (i - 1) = op x p b i := by unfold op; rw [if_neg h, if_neg h2]
          have hw : wrap64 ((i : Int) - 1) = ((i - 1 : Nat) : Int) := by unfold wrap64; omega
          rw [if_neg (by omega), if_neg (by omega), hw, bit_n hx (by omega), Option.bind_some, e, set_n hlt (by omega), Option.bind_some, ofB_succ, w1n hi (by decide)]
    · exact fin i (by omega)
theorem opens {x : Nat} (hx : x < 2 ^ 64) (i c : Int) : ∃ r : Int × Int, Ev (fun k => cubitref03_Open.f k (x : Int) i c) r ∧ Ev (fun k => bits_Open.f k (x : Int) i c) r := by
  by_cases hr : i < 0 ∨ i > 63 ∨ c < 0 ∨ c > 1
  · unfold cubitref03_Open.f bits_Open.f
    refine ⟨(0, 2), ?_, ?_⟩
    · have h0 : Ev (fun k => cubitref03_Open.j0 k (x : Int) i c true) (0, 2) := by
        refine Ev.step (f := fun _ => some (0, 2)) (fun k => ?_) (Ev.now _)
        simp only [cubitref03_Open.j0, if_true]
      refine Ev.congr (fun k => ?_) h0
      by_cases c1 : i < 0
      · rw [if_pos c1]
      · by_cases c2 : i > 63
        · rw [if_neg c1, if_pos c2]
        · by_cases c3 : c < 0
          · rw [if_neg c1, if_neg c2, if_pos c3]
          · rw [if_neg c1, if_neg c2, if_neg c3, decide_eq_true (by omega)]
    · have h0 : Ev (fun k => bits_Open.j0 k (x : Int) i c true) (0, 2) := by
        refine Ev.step (f := fun _ => some (0, 2)) (fun k => ?_) (Ev.now _)
        simp only [bits_Open.j0, if_true]
      refine Ev.congr (fun k => ?_) h0
      by_cases c1 : i < 0
      · rw [if_pos c1]
      · by_cases c2 : i > 63
        · rw [if_neg c1, if_pos c2]
        · by_cases c3 : c < 0
          · rw [if_neg c1, if_neg c2, if_pos c3]
          · rw [if_neg c1, if_neg c2, if_neg c3, decide_eq_true (by omega)]
  · obtain ⟨p, rfl⟩ : ∃ p : Nat, i = (p : Int) := ⟨i.toNat, by omega⟩
    have hp : p < 64 := by omega
    obtain ⟨b, rfl⟩ : ∃ b : Bool, c = bb b := by
      have : c = 0 ∨ c = 1 := by omega
      rcases this with rfl | rfl
      · exact ⟨false, rfl⟩
      · exact ⟨true, rfl⟩
    have ref : ∀ r : Int × Int, Ev (fun k => cubitref03_Open.j0 k (x : Int) (p : Int) (bb b) false) r → Ev (fun k => cubitref03_Open.f k (x : Int) (p : Int) (bb b)) r := by
      intro r h0
      unfold cubitref03_Open.f
      exact Ev.congr (fun k => by rw [if_neg (by omega), if_neg (by omega), if_neg (by omega), decide_eq_false (by omega)]) h0
    cases h63 : x.testBit 63 with
    | true =>
      refine ⟨(0, 1), ref _ ?_, ⟨1, fun k hk => ?_⟩⟩
      · refine Ev.step (f := fun _ => some (0, 1)) (fun k => ?_) (Ev.now _)
        simp only [cubitref03_Open.j0, Bool.false_eq_true, if_false]
        rw [show (63 : Int) = ((63 : Nat) : Int) from rfl, bit_n hx (by decide), Option.bind_some, h63, if_pos (show bb true = 1 from rfl)]
      · obtain ⟨k, rfl⟩ : ∃ m, k = m + 1 := ⟨k - 1, by omega⟩
        exact open_top b hx hp h63 k
    | false =>
      obtain ⟨y, h1, h2, h3⟩ := open_n b hx hp h63
      have hy : y = ofB (op x p b) 64 := by
        refine word_ext h2 (ofB_lt _ _ (Nat.le_refl _)) (fun j hj => ?_)
        rw [h3 j hj, testBit_ofB, decide_eq_true hj, Bool.true_and]
        rfl
      refine ⟨((y : Int), 0), ref _ ?_, ⟨1, fun k hk => ?_⟩⟩
      · rw [hy]
        refine Ev.step (fun k => ?_) (refopen_loop hx hp 64 0 (by omega) (by omega))
        simp only [cubitref03_Open.j0, Bool.false_eq_true, if_false]
        rw [show (63 : Int) = ((63 : Nat) : Int) from rfl, bit_n hx (by decide), Option.bind_some, h63, if_neg (by decide)]
        rfl
      · obtain ⟨k, rfl⟩ : ∃ m, k = m + 1 := ⟨k - 1, by omega⟩
        exact h1 k
theorem BitsNumbers : cubitlaw03_BitsNumbers.Pure := by
  intro a0 i j b h0 h1 h2 h3
  refine Ev.rounds (r := true) ?_
  obtain ⟨x, hx, rfl⟩ := word h0
  obtain ⟨rc, c1, c2⟩ := closes hx i
  obtain ⟨rs, s1, s2⟩ := swaps hx i j
  obtain ⟨ro, o1, o2⟩ := opens hx i b
  have last : Ev (fun k => cubitlaw03_BitsNumbers.j0 k (x : Int) i j b false) true := by
    refine Ev.step (f := fun k => (cubitref03_Close.f k (x : Int) i).bind fun bt278 => ((some rc).bind fun bt281 => ((cubitref03_Swap.f k (x : Int) i j).bind fun bt284 => ((bits_Swap.f k (x : Int) i j).bind fun bt286 => ((cubitref03_Open.f k (x : Int) i b).bind fun bt288 => ((bits_Open.f k (x : Int) i b).bind fun bt290 => (if bt281.1 = bt278.1 then (if bt281.2.1 = bt278.2.1 then (if bt281.2.2 = bt278.2.2 then (if bt286.1 = bt284.1 then (if bt286.2 = bt284.2 then (if bt290.1 = bt288.1 then (some (bt290.2 == bt288.2)) else (some false)) else (some false)) else (some false)) else (some false)) else (some false)) else (some false)))))))) (fun k => ?_) ?_
    · simp only [cubitlaw03_BitsNumbers.j0, Bool.false_eq_true, if_false]
      rw [c2]
    · refine Ev.bind c1 ?_
      refine Ev.bind (Ev.now rc) ?_
      refine Ev.bind s1 ?_
      refine Ev.bind s2 ?_
      refine Ev.bind o1 ?_
      refine Ev.bind o2 ?_
      simp only [if_true, beq_self_eq_true]
      exact Ev.now true
  unfold cubitlaw03_BitsNumbers.f
  refine Ev.bind awake_ev ?_
  simp only [if_true]
  rw [count_is hx, parity_is hx, low_is hx, gray_n hx]
  refine Ev.bind (Ev.now _) ?_
  refine Ev.bind (refcount_ev hx) ?_
  simp only [if_true]
  refine Ev.bind (Ev.now _) ?_
  refine Ev.bind (refparity_ev hx) ?_
  simp only [if_true]
  refine Ev.bind (Ev.now _) ?_
  refine Ev.bind (show Ev (fun k => cubitref03_Low.f k (x : Int)) _ from reflow_loop hx 64 0 (by omega) (by omega) (fun j h => by omega)) ?_
  simp only [if_true]
  refine Ev.bind (Ev.now _) ?_
  refine Ev.bind (show Ev (fun k => cubitref03_Gray.f k (x : Int)) _ from refgray_loop hx 64 0 (by omega) (by omega)) ?_
  simp only [if_true]
  refine Ev.bind (ungray_n hx) ?_
  refine Ev.bind (refungray_ev hx) ?_
  rw [bne_self_eq_false]
  exact last
end Go.Proofs.YtoebcbhadcpcoaaDoor.Pure
