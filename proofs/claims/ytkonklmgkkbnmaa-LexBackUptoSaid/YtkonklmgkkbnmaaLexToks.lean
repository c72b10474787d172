/- What the scanner reads: tokens with blanks and remarks between; and that it reads just these. -/
import Derived.Test.YtkonklmgkkbnmaaLexRef
namespace Go.Proofs.Ytkonklmgkkbnmaa.Pure
open Go.RowKit Go.Proofs.Ytkonklmgkkbnmaa.PA Go.Proofs.Ytkonklmgkkbnmaa.B Go.Proofs.YtkonklmgkkbnmaaW.PrintWords Go.Proofs.YtkonklmgkkbnmaaW.PrintLast Go.Proofs.YtkonklmgkkbnmaaW.PrintMore
set_option linter.unusedVariables false
set_option linter.unusedSimpArgs false

/-- From place a to place b there are blanks and whole remarks alone. -/
def Gap (s : ByteArray) : Nat → Nat → Nat → Prop
  | 0, a, b => a = b
  | n + 1, a, b => a = b ∨ (a < s.size ∧ blankB (bt s (a : Int)) = true ∧ Gap s n (a + 1) b) ∨ (a < s.size ∧ bt s (a : Int) = 35 ∧ Gap s n (runTo lineB s a) b)
theorem Gap.same (s : ByteArray) (n a : Nat) : Gap s n a a := by
  cases n with
  | zero => rfl
  | succ n => exact .inl rfl
theorem Gap.le {s : ByteArray} : ∀ (n a b : Nat), Gap s n a b → a ≤ b
  | 0, a, b, h => by cases h; exact Nat.le_refl _
  | n + 1, a, b, h => by
    rcases h with h | ⟨_, _, h⟩ | ⟨_, _, h⟩
    · omega
    · have := Gap.le n _ _ h; omega
    · have := Gap.le n _ _ h
      have := runTo_ge lineB s a
      omega
theorem Gap.snoc {s : ByteArray} : ∀ (n a b c : Nat), Gap s n a b → Gap s 1 b c → Gap s (n + 1) a c
  | 0, a, b, c, h, h1 => by cases h; exact h1
  | n + 1, a, b, c, h, h1 => by
    rcases h with h | ⟨x, y, h⟩ | ⟨x, y, h⟩
    · subst h
      rcases h1 with h1 | ⟨p, q, h1⟩ | ⟨p, q, h1⟩
      · exact .inl h1
      · exact .inr (.inl ⟨p, q, by cases h1; exact Gap.same _ _ _⟩)
      · exact .inr (.inr ⟨p, q, by cases h1; exact Gap.same _ _ _⟩)
    · exact .inr (.inl ⟨x, y, Gap.snoc n _ _ _ h h1⟩)
    · exact .inr (.inr ⟨x, y, Gap.snoc n _ _ _ h h1⟩)

/-- A token of kind kd stands from a to b. -/
def TokAt (s : ByteArray) (a b : Nat) (kd : Int) : Prop :=
  (kd = 1 ∧ letterB (bt s (a : Int)) = true ∧ b = runTo nameB s a) ∨
  (kd = 2 ∧ digitB (bt s (a : Int)) = true ∧ b = runTo digitB s a ∧ ¬ (b < s.size ∧ letterB (bt s (b : Int)) = true)) ∨
  (kd = 3 ∧ signB (bt s (a : Int)) = true ∧ b = a + 1)
theorem digit_not {b : Int} (h : digitB b = true) : letterB b = false ∧ blankB b = false ∧ b ≠ 35 := by
  unfold digitB at h
  simp only [Bool.and_eq_true, decide_eq_true_eq] at h
  refine ⟨?_, ?_, by omega⟩
  · unfold letterB
    simp only [Bool.or_eq_false_iff, Bool.and_eq_false_iff, decide_eq_false_iff_not, beq_eq_false_iff_ne]
    omega
  · unfold blankB
    simp only [Bool.or_eq_false_iff, beq_eq_false_iff_ne]
    omega
theorem letter_not {b : Int} (h : letterB b = true) : digitB b = false ∧ blankB b = false ∧ b ≠ 35 ∧ signB b = false := by
  unfold letterB at h
  simp only [Bool.or_eq_true, Bool.and_eq_true, decide_eq_true_eq, beq_iff_eq] at h
  refine ⟨?_, ?_, by omega, ?_⟩
  · unfold digitB
    simp only [Bool.and_eq_false_iff, decide_eq_false_iff_not]
    omega
  · unfold blankB
    simp only [Bool.or_eq_false_iff, beq_eq_false_iff_ne]
    omega
  · unfold signB
    simp only [Bool.or_eq_false_iff, beq_eq_false_iff_ne]
    omega
theorem sign_not {b : Int} (h : signB b = true) : letterB b = false ∧ digitB b = false ∧ blankB b = false ∧ b ≠ 35 := by
  unfold signB at h
  simp only [Bool.or_eq_true, beq_iff_eq] at h
  refine ⟨?_, ?_, ?_, by omega⟩
  · unfold letterB
    simp only [Bool.or_eq_false_iff, Bool.and_eq_false_iff, decide_eq_false_iff_not, beq_eq_false_iff_ne]
    omega
  · unfold digitB
    simp only [Bool.and_eq_false_iff, decide_eq_false_iff_not]
    omega
  · unfold blankB
    simp only [Bool.or_eq_false_iff, beq_eq_false_iff_ne]
    omega
theorem TokAt.not {s : ByteArray} {a b : Nat} {kd : Int} (h : TokAt s a b kd) : blankB (bt s (a : Int)) = false ∧ bt s (a : Int) ≠ 35 := by
  rcases h with ⟨_, h, _⟩ | ⟨_, h, _⟩ | ⟨_, h, _⟩
  · exact ⟨(letter_not h).2.1, (letter_not h).2.2.1⟩
  · exact (digit_not h).2
  · exact (sign_not h).2.2
theorem TokAt.lt {s : ByteArray} {a b : Nat} {kd : Int} (h : TokAt s a b kd) (ha : a < s.size) : a < b ∧ b ≤ s.size := by
  rcases h with ⟨_, h, rfl⟩ | ⟨_, h, rfl, _⟩ | ⟨_, h, rfl⟩
  · exact ⟨runTo_gt ha (by unfold nameB; rw [h]; rfl), runTo_le (by omega)⟩
  · exact ⟨runTo_gt ha h, runTo_le (by omega)⟩
  · omega
/-- Behind place e these tokens stand, and no more. -/
def Toks (s : ByteArray) : List S31 → Nat → Prop
  | [], e => ∃ n, Gap s n e s.size
  | t :: r, e => ∃ (a b n : Nat) (kd : Int), Gap s n e a ∧ a < s.size ∧ TokAt s a b kd ∧ t = ⟨kd, s.extract a b, (a : Int)⟩ ∧ Toks s r b

theorem scan_toks (s : ByteArray) : ∀ (d : Nat) (l : List S31) (i e n : Nat), s.size - i ≤ d → i ≤ s.size → Gap s n e i →
    (∃ r, scanF s d l i = (l ++ r, 0, 0) ∧ Toks s r e) ∨ (∃ j : Nat, j ≤ s.size ∧ scanF s d l i = ([], (j : Int), 90))
  | 0, l, i, e, n, h, hi, hg => by
    left
    obtain rfl : i = s.size := by omega
    exact ⟨[], by simp [scanF], n, hg⟩
  | d + 1, l, i, e, n, h, hi, hg => by
    unfold scanF
    by_cases hlt : i < s.size
    · rw [if_pos hlt]
      cases hb : blankB (bt s (i : Int)) with
      | true =>
        simp only [if_true]
        exact scan_toks s d l (i + 1) e (n + 1) (by omega) (by omega) (Gap.snoc n e i (i + 1) hg (.inr (.inl ⟨hlt, hb, rfl⟩)))
      | false =>
        simp only [Bool.false_eq_true, if_false]
        by_cases h35 : bt s (i : Int) = 35
        · rw [if_pos h35]
          have hgt : i < runTo lineB s i := runTo_gt hlt (by rw [h35]; rfl)
          exact scan_toks s d l _ e (n + 1) (by omega) (runTo_le hi) (Gap.snoc n e i _ hg (.inr (.inr ⟨hlt, h35, rfl⟩)))
        · rw [if_neg h35]
          have one : ∀ (b : Nat) (kd : Int), TokAt s i b kd →
              (∃ r, scanF s d (l ++ [⟨kd, s.extract i b, (i : Int)⟩]) b = (l ++ r, 0, 0) ∧ Toks s r e) ∨ (∃ j : Nat, j ≤ s.size ∧ scanF s d (l ++ [⟨kd, s.extract i b, (i : Int)⟩]) b = ([], (j : Int), 90)) := by
            intro b kd ht
            have hl := ht.lt hlt
            rcases scan_toks s d (l ++ [⟨kd, s.extract i b, (i : Int)⟩]) b b 0 (by omega) hl.2 (Gap.same _ _ _) with ⟨r, hr, hT⟩ | ⟨j, hj, hr⟩
            · left
              exact ⟨⟨kd, s.extract i b, (i : Int)⟩ :: r, by rw [hr]; simp, i, b, n, kd, hg, hlt, ht, rfl, hT⟩
            · right
              exact ⟨j, hj, hr⟩
          cases hL : letterB (bt s (i : Int)) with
          | true =>
            simp only [if_true]
            exact one _ 1 (.inl ⟨rfl, hL, rfl⟩)
          | false =>
            simp only [Bool.false_eq_true, if_false]
            cases hD : digitB (bt s (i : Int)) with
            | true =>
              simp only [if_true]
              by_cases hc : runTo digitB s i < s.size ∧ letterB (bt s (runTo digitB s i : Int)) = true
              · rw [if_pos hc]
                right
                exact ⟨_, runTo_le hi, rfl⟩
              · rw [if_neg hc]
                exact one _ 2 (.inr (.inl ⟨rfl, hD, rfl, hc⟩))
            | false =>
              simp only [Bool.false_eq_true, if_false]
              cases hS : signB (bt s (i : Int)) with
              | true =>
                simp only [if_true]
                exact one _ 3 (.inr (.inr ⟨rfl, hS, rfl⟩))
              | false =>
                simp only [Bool.false_eq_true, if_false]
                right
                exact ⟨i, hi, rfl⟩
    · rw [if_neg hlt]
      left
      obtain rfl : i = s.size := by omega
      exact ⟨[], by simp, n, hg⟩

theorem scanF_fuel (s : ByteArray) : ∀ (d d' : Nat) (l : List S31) (i : Nat), s.size - i ≤ d → s.size - i ≤ d' → i ≤ s.size → scanF s d l i = scanF s d' l i
  | 0, 0, l, i, _, _, _ => rfl
  | 0, d' + 1, l, i, h, _, _ => by unfold scanF; rw [if_neg (by omega)]
  | d + 1, 0, l, i, _, h, _ => by unfold scanF; rw [if_neg (by omega)]
  | d + 1, d' + 1, l, i, h, h', hi => by
    unfold scanF
    split
    · rename_i hlt
      split
      · exact scanF_fuel s d d' l (i + 1) (by omega) (by omega) (by omega)
      · split
        · rename_i h35
          have hgt : i < runTo lineB s i := runTo_gt hlt (by rw [h35]; rfl)
          exact scanF_fuel s d d' l _ (by omega) (by omega) (runTo_le hi)
        · split
          · rename_i hL
            have hgt : i < runTo nameB s i := runTo_gt hlt (by unfold nameB; rw [hL]; rfl)
            exact scanF_fuel s d d' _ _ (by omega) (by omega) (runTo_le hi)
          · split
            · rename_i hD
              have hgt : i < runTo digitB s i := runTo_gt hlt hD
              split
              · rfl
              · exact scanF_fuel s d d' _ _ (by omega) (by omega) (runTo_le hi)
            · split
              · exact scanF_fuel s d d' _ _ (by omega) (by omega) (by omega)
              · rfl
    · rfl
/-- The scanner goes over a gap. -/
theorem scan_gap (s : ByteArray) (l : List S31) : ∀ (n e a d : Nat), Gap s n e a → e ≤ s.size → a ≤ s.size → s.size - e ≤ d → scanF s d l e = scanF s (s.size - a) l a
  | 0, e, a, d, h, he, ha, hd => by cases h; exact scanF_fuel s _ _ l e hd (Nat.le_refl _) he
  | n + 1, e, a, d, h, he, ha, hd => by
    rcases h with h | ⟨hlt, hb, h⟩ | ⟨hlt, hb, h⟩
    · subst h
      exact scanF_fuel s _ _ l e hd (Nat.le_refl _) he
    · obtain ⟨d, rfl⟩ : ∃ m, d = m + 1 := ⟨d - 1, by omega⟩
      rw [show scanF s (d + 1) l e = scanF s d l (e + 1) by
        conv => lhs; unfold scanF
        rw [if_pos hlt, hb]
        rfl]
      exact scan_gap s l n (e + 1) a d h (by omega) ha (by omega)
    · obtain ⟨d, rfl⟩ : ∃ m, d = m + 1 := ⟨d - 1, by omega⟩
      have hgt : e < runTo lineB s e := runTo_gt hlt (by rw [hb]; rfl)
      rw [show scanF s (d + 1) l e = scanF s d l (runTo lineB s e) by
        conv => lhs; unfold scanF
        rw [if_pos hlt, show blankB (bt s (e : Int)) = false by rw [hb]; rfl, if_pos hb]
        rfl]
      exact scan_gap s l n _ a d h (runTo_le he) ha (by omega)
/-- Where tokens stand so, the scanner reads them. -/
theorem toks_scan (s : ByteArray) : ∀ (r : List S31) (l : List S31) (e d : Nat), Toks s r e → e ≤ s.size → s.size - e ≤ d → scanF s d l e = (l ++ r, 0, 0)
  | [], l, e, d, ⟨n, h⟩, he, hd => by
    rw [scan_gap s l n e s.size d h he (Nat.le_refl _) hd, Nat.sub_self]
    simp [scanF]
  | t :: r, l, e, d, ⟨a, b, n, kd, hg, ha, ht, et, hr⟩, he, hd => by
    subst et
    rw [scan_gap s l n e a d hg he (by omega) hd]
    have hl := ht.lt ha
    have hn := ht.not
    obtain ⟨m, hm⟩ : ∃ m, s.size - a = m + 1 := ⟨s.size - a - 1, by omega⟩
    have step : scanF s (m + 1) l a = scanF s m (l ++ [⟨kd, s.extract a b, (a : Int)⟩]) b := by
      conv => lhs; unfold scanF
      rw [if_pos ha, hn.1]
      simp only [Bool.false_eq_true, if_false]
      rw [if_neg hn.2]
      rcases ht with ⟨rfl, h, rfl⟩ | ⟨rfl, h, rfl, hc⟩ | ⟨rfl, h, rfl⟩
      · rw [h]; rfl
      · rw [(digit_not h).1, h]
        simp only [Bool.false_eq_true, if_false, if_true]
        rw [if_neg hc]
      · rw [(sign_not h).1, (sign_not h).2.1, h]
        rfl
    rw [hm, step, toks_scan s r _ b m hr hl.2 (by omega)]
    simp
/-- What a Scan that refuses nothing has read. -/
theorem scanW_cases (s : ByteArray) : (∃ r, scanW s = (r, 0, 0) ∧ Toks s r 0 ∧ s.size ≤ 65536) ∨ (∃ j : Nat, j ≤ s.size ∧ scanW s = ([], (j : Int), 90)) ∨ scanW s = ([], 0, 1) := by
  unfold scanW
  by_cases h : s.size > 65536
  · rw [if_pos h]
    exact .inr (.inr rfl)
  · rw [if_neg h]
    rcases scan_toks s s.size [] 0 0 0 (by omega) (by omega) (Gap.same _ _ _) with ⟨r, hr, hT⟩ | ⟨j, hj, hr⟩
    · exact .inl ⟨r, by simpa using hr, hT, by omega⟩
    · exact .inr (.inl ⟨j, hj, hr⟩)
theorem scanW_of {s : ByteArray} {r : List S31} (h : Toks s r 0) (hs : s.size ≤ 65536) : scanW s = (r, 0, 0) := by
  unfold scanW
  rw [if_neg (by omega), toks_scan s r [] 0 s.size h (by omega) (by omega)]
  simp
end Go.Proofs.Ytkonklmgkkbnmaa.Pure
