/- The scanner as a plain Lean function, and that both Scans come to it. -/
import Derived.Test.YtkonklmgkkbnmaaPAx3
import Derived.Test.YtkonklmgkkbnmaaBitA
namespace Go.Proofs.Ytkonklmgkkbnmaa.Pure
open Go.RowKit Go.Proofs.Ytkonklmgkkbnmaa.PA Go.Proofs.Ytkonklmgkkbnmaa.B Go.Proofs.YtkonklmgkkbnmaaW.PrintWords Go.Proofs.YtkonklmgkkbnmaaW.PrintLast Go.Proofs.YtkonklmgkkbnmaaW.PrintMore
set_option linter.unusedVariables false
set_option linter.unusedSimpArgs false

def blankB (b : Int) : Bool := b == 9 || (b == 10 || (b == 13 || b == 32))
def letterB (b : Int) : Bool := (decide (97 ≤ b) && decide (b ≤ 122)) || ((decide (65 ≤ b) && decide (b ≤ 90)) || b == 95)
def digitB (b : Int) : Bool := decide (48 ≤ b) && decide (b ≤ 57)
def nameB (b : Int) : Bool := letterB b || digitB b
def signB (b : Int) : Bool := b == 123 || (b == 125 || (b == 91 || (b == 93 || (b == 59 || b == 44))))
def lineB (b : Int) : Bool := b != 10

theorem letter_f (b : Int) : lex_letter.f b = some (letterB b) := by
  unfold lex_letter.f letterB
  by_cases h1 : 97 ≤ b <;> by_cases h2 : b ≤ 122 <;> by_cases h3 : 65 ≤ b <;> by_cases h4 : b ≤ 90 <;> simp [h1, h2, h3, h4]
theorem digit_f (b : Int) : lex_digit.f b = some (digitB b) := by
  unfold lex_digit.f digitB
  by_cases h1 : 48 ≤ b <;> simp [h1]
theorem inName_f (b : Int) : lex_inName.f b = some (nameB b) := by
  unfold lex_inName.f nameB
  rw [letter_f, digit_f]
  cases letterB b <;> simp
theorem sign_all : ∀ n : Fin 256, (decide (Lib.indexByte [123, 125, 91, 93, 59, 44] ((n.val : Int).toNat.toUInt8) < 0)) = !(signB (n.val : Int)) := by decide +kernel
theorem sign_ix {b : Int} (h : 0 ≤ b ∧ b ≤ 255) : ∃ j, strings_IndexByte.f (⟨#[123, 125, 91, 93, 59, 44]⟩ : ByteArray) b = some j ∧ (j < 0 ↔ signB b = false) := by
  obtain ⟨n, rfl⟩ : ∃ n : Nat, b = (n : Int) := ⟨b.toNat, by omega⟩
  refine ⟨_, rfl, ?_⟩
  have := sign_all ⟨n, by omega⟩
  constructor
  · intro hh
    have h1 := decide_eq_true hh
    rw [show (decide (Lib.indexByte (⟨#[123, 125, 91, 93, 59, 44]⟩ : ByteArray).data.toList ((n : Int).toNat.toUInt8) < 0)) = !(signB (n : Int)) from this] at h1
    simpa using h1
  · intro hh
    apply of_decide_eq_true
    rw [show (decide (Lib.indexByte (⟨#[123, 125, 91, 93, 59, 44]⟩ : ByteArray).data.toList ((n : Int).toNat.toUInt8) < 0)) = !(signB (n : Int)) from this, hh]
    rfl

/-- The first place from i on whose byte isn't such a one. -/
def nxt (p : Int → Bool) (s : ByteArray) : Nat → Nat → Nat
  | 0, i => i
  | n + 1, i => if i < s.size ∧ p (bt s (i : Int)) = true then nxt p s n (i + 1) else i
theorem nxt_ge (p : Int → Bool) (s : ByteArray) : ∀ n i, i ≤ nxt p s n i
  | 0, i => Nat.le_refl _
  | n + 1, i => by
    unfold nxt
    split
    · exact Nat.le_trans (Nat.le_succ i) (nxt_ge p s n (i + 1))
    · exact Nat.le_refl _
theorem nxt_le (p : Int → Bool) (s : ByteArray) : ∀ n i, i ≤ s.size → nxt p s n i ≤ s.size
  | 0, i, h => h
  | n + 1, i, h => by
    unfold nxt
    split
    · rename_i c
      exact nxt_le p s n (i + 1) (by omega)
    · exact h
theorem nxt_in (p : Int → Bool) (s : ByteArray) : ∀ n i j, i ≤ j → j < nxt p s n i → p (bt s (j : Int)) = true
  | 0, i, j, h1, h2 => by unfold nxt at h2; omega
  | n + 1, i, j, h1, h2 => by
    unfold nxt at h2
    split at h2
    · rename_i c
      rcases Nat.lt_or_ge i j with h | h
      · exact nxt_in p s n (i + 1) j h h2
      · obtain rfl : i = j := by omega
        exact c.2
    · omega
theorem nxt_end (p : Int → Bool) (s : ByteArray) : ∀ n i, s.size - i ≤ n → nxt p s n i < s.size → p (bt s (nxt p s n i : Int)) = false
  | 0, i, h, h2 => by unfold nxt at h2; omega
  | n + 1, i, h, h2 => by
    unfold nxt at h2 ⊢
    split
    · rename_i c
      rw [if_pos c] at h2
      exact nxt_end p s n (i + 1) (by omega) h2
    · rename_i c
      rw [if_neg c] at h2
      have : ¬ p (bt s (i : Int)) = true := fun hh => c ⟨h2, hh⟩
      simpa using this
theorem nxt_more (p : Int → Bool) (s : ByteArray) : ∀ n m i, s.size - i ≤ n → s.size - i ≤ m → nxt p s n i = nxt p s m i
  | 0, 0, i, _, _ => rfl
  | 0, m + 1, i, h, _ => by unfold nxt; rw [if_neg (by omega)]
  | n + 1, 0, i, _, h => by unfold nxt; rw [if_neg (by omega)]
  | n + 1, m + 1, i, h, h' => by
    unfold nxt
    split
    · exact nxt_more p s n m (i + 1) (by omega) (by omega)
    · rfl
def runTo (p : Int → Bool) (s : ByteArray) (i : Nat) : Nat := nxt p s (s.size - i) i
theorem runTo_step {p : Int → Bool} {s : ByteArray} {i : Nat} (h : i < s.size) (hp : p (bt s (i : Int)) = true) : runTo p s i = runTo p s (i + 1) := by
  unfold runTo
  obtain ⟨n, hn⟩ : ∃ n, s.size - i = n + 1 := ⟨s.size - i - 1, by omega⟩
  rw [hn]
  conv => lhs; unfold nxt
  rw [if_pos ⟨h, hp⟩]
  exact nxt_more p s n _ (i + 1) (by omega) (by omega)
theorem runTo_stop {p : Int → Bool} {s : ByteArray} {i : Nat} (h : i < s.size → p (bt s (i : Int)) = false) : runTo p s i = i := by
  unfold runTo
  cases hn : s.size - i with
  | zero => rfl
  | succ n =>
    unfold nxt
    rw [if_neg]
    rintro ⟨h1, h2⟩
    rw [h h1] at h2
    cases h2
theorem runTo_ge (p : Int → Bool) (s : ByteArray) (i : Nat) : i ≤ runTo p s i := nxt_ge p s _ i
theorem runTo_le {p : Int → Bool} {s : ByteArray} {i : Nat} (h : i ≤ s.size) : runTo p s i ≤ s.size := nxt_le p s _ i h
theorem runTo_gt {p : Int → Bool} {s : ByteArray} {i : Nat} (h : i < s.size) (hp : p (bt s (i : Int)) = true) : i < runTo p s i := by
  rw [runTo_step h hp]
  exact runTo_ge p s (i + 1)

/-- The scanner. -/
def scanF (s : ByteArray) : Nat → List S31 → Nat → List S31 × Int × Int
  | 0, l, i => (l, 0, 0)
  | d + 1, l, i =>
    if i < s.size then
      if blankB (bt s (i : Int)) then scanF s d l (i + 1)
      else if bt s (i : Int) = 35 then scanF s d l (runTo lineB s i)
      else if letterB (bt s (i : Int)) then scanF s d (l ++ [⟨1, s.extract i (runTo nameB s i), (i : Int)⟩]) (runTo nameB s i)
      else if digitB (bt s (i : Int)) then
        (if runTo digitB s i < s.size ∧ letterB (bt s (runTo digitB s i : Int)) = true then ([], (runTo digitB s i : Int), 90)
         else scanF s d (l ++ [⟨2, s.extract i (runTo digitB s i), (i : Int)⟩]) (runTo digitB s i))
      else if signB (bt s (i : Int)) then scanF s d (l ++ [⟨3, s.extract i (i + 1), (i : Int)⟩]) (i + 1)
      else ([], (i : Int), 90)
    else (l, 0, 0)

theorem w1 {i n : Nat} (h : i < n) (hn : n ≤ 140737488351232) : wrap64 ((i : Int) + 1) = ((i + 1 : Nat) : Int) := by
  unfold wrap64
  omega
theorem such22 (c : Int) : lex_such 22 c = some (lineB c) := rfl
theorem such24 (c : Int) : lex_such 24 c = some (nameB c) := by rw [show lex_such 24 c = lex_inName.f c from rfl, inName_f]
theorem such25 (c : Int) : lex_such 25 c = some (digitB c) := by rw [show lex_such 25 c = lex_digit.f c from rfl, digit_f]

theorem run_ev (s : ByteArray) (hs : s.size ≤ 140737488351232) (f : Nat) (p : Int → Bool) (hp : ∀ c, lex_such f c = some (p c)) : ∀ (d i : Nat), s.size - i ≤ d → i ≤ s.size →
    Ev (fun k => lex_run.l0 k s (i : Int) f) (runTo p s i : Int) := by
  intro d
  induction d with
  | zero =>
    intro i h hi
    rw [runTo_stop (fun h' => by omega)]
    refine Ev.step (f := fun _ => some (i : Int)) (fun k => ?_) (Ev.now _)
    simp only [lex_run.l0]
    rw [if_neg (by omega)]
  | succ d ih =>
    intro i h hi
    by_cases hlt : i < s.size
    · cases hb : p (bt s (i : Int)) with
      | true =>
        rw [runTo_step hlt hb]
        refine Ev.step (f := fun k => lex_run.l0 k s ((i + 1 : Nat) : Int) f) (fun k => ?_) (ih (i + 1) (by omega) (by omega))
        simp only [lex_run.l0]
        rw [if_pos (by omega), if_pos (by omega), hp, hb, w1 hlt hs]
        rfl
      | false =>
        rw [runTo_stop (fun _ => hb)]
        refine Ev.step (f := fun _ => some (i : Int)) (fun k => ?_) (Ev.now _)
        simp only [lex_run.l0]
        rw [if_pos (by omega), if_pos (by omega), hp, hb]
        rfl
    · rw [runTo_stop (fun h' => absurd h' hlt)]
      refine Ev.step (f := fun _ => some (i : Int)) (fun k => ?_) (Ev.now _)
      simp only [lex_run.l0]
      rw [if_neg (by omega)]
theorem run22 {s : ByteArray} (hs : s.size ≤ 140737488351232) {i : Nat} (hi : i ≤ s.size) : Ev (fun k => lex_run.f k s (i : Int) 22) (runTo lineB s i : Int) := run_ev s hs 22 lineB such22 _ i (Nat.le_refl _) hi
theorem run24 {s : ByteArray} (hs : s.size ≤ 140737488351232) {i : Nat} (hi : i ≤ s.size) : Ev (fun k => lex_run.f k s (i : Int) 24) (runTo nameB s i : Int) := run_ev s hs 24 nameB such24 _ i (Nat.le_refl _) hi
theorem run25 {s : ByteArray} (hs : s.size ≤ 140737488351232) {i : Nat} (hi : i ≤ s.size) : Ev (fun k => lex_run.f k s (i : Int) 25) (runTo digitB s i : Int) := run_ev s hs 25 digitB such25 _ i (Nat.le_refl _) hi

/-- The program's Scan, from a place on. -/
theorem prog_ev (s : ByteArray) (hs : s.size ≤ 65536) : ∀ (d : Nat) (l : List S31) (i : Nat), s.size - i ≤ d → i ≤ s.size → l.length ≤ i → Ev (fun k => lex_Scan.l0 k s l (i : Int)) (scanF s d l i) := by
  have hm : s.size ≤ 140737488351232 := by omega
  intro d
  induction d with
  | zero =>
    intro l i h hi hl
    refine Ev.step (f := fun _ => some (l, 0, 0)) (fun k => ?_) (Ev.now _)
    simp only [lex_Scan.l0]
    rw [if_neg (by omega)]
  | succ d ih =>
    intro l i h hi hl
    by_cases hlt : i < s.size
    · have hbr := bt_range s (i : Int)
      have hj : ∀ k, lex_Scan.l0 (k + 1) s l (i : Int) = lex_Scan.j1 k s l (i : Int) (bt s (i : Int)) ((i + 1 : Nat) : Int) 3 (blankB (bt s (i : Int))) := by
        intro k
        simp only [lex_Scan.l0]
        rw [if_pos (by omega), if_pos (by omega), w1 hlt hm]
        unfold blankB
        by_cases h1 : bt s (i : Int) = 9
        · rw [if_pos h1, h1]; rfl
        · rw [if_neg h1]
          by_cases h2 : bt s (i : Int) = 10
          · rw [if_pos h2, h2]; rfl
          · rw [if_neg h2]
            by_cases h3 : bt s (i : Int) = 13
            · rw [if_pos h3, h3]; rfl
            · rw [if_neg h3, beq_eq_false_iff_ne.mpr h1, beq_eq_false_iff_ne.mpr h2, beq_eq_false_iff_ne.mpr h3]
              rfl
      refine Ev.step hj ?_
      unfold scanF
      rw [if_pos hlt]
      cases hb : blankB (bt s (i : Int)) with
      | true =>
        simp only [if_true]
        refine Ev.step (f := fun k => lex_Scan.l0 k s l ((i + 1 : Nat) : Int)) (fun k => ?_) (ih l (i + 1) (by omega) (by omega) (by omega))
        simp only [lex_Scan.j1, if_true]
        rw [w1 hlt hm]
      | false =>
        simp only [Bool.false_eq_true, if_false]
        by_cases h35 : bt s (i : Int) = 35
        · rw [if_pos h35]
          have hg : i < runTo lineB s i := runTo_gt hlt (by rw [h35]; rfl)
          have hle : runTo lineB s i ≤ s.size := runTo_le hi
          refine Ev.step (f := fun k => (lex_run.f k s (i : Int) 22).bind fun t => lex_Scan.l0 k s l t) (fun k => ?_) (Ev.bind (run22 hm hi) (ih l _ (by omega) hle (by omega)))
          simp only [lex_Scan.j1, Bool.false_eq_true, if_false]
          rw [if_pos h35]
        · rw [if_neg h35]
          cases hL : letterB (bt s (i : Int)) with
          | true =>
            simp only [if_true]
            have hg : i < runTo nameB s i := runTo_gt hlt (by unfold nameB; rw [hL]; rfl)
            have hle : runTo nameB s i ≤ s.size := runTo_le hi
            refine Ev.step (f := fun k => (lex_run.f k s (i : Int) 24).bind fun t => (if 0 ≤ (i : Int) then (if (i : Int) ≤ t then (if t ≤ (s.size : Int) then (if l.length < 4398046511104 then (lex_Scan.l0 k s (l ++ [(⟨1, s.extract (i : Int).toNat (t : Int).toNat, (i : Int)⟩ : S31)]) t) else none) else none) else none) else none)) (fun k => ?_) (Ev.bind (run24 hm hi) ?_)
            · simp only [lex_Scan.j1, Bool.false_eq_true, if_false]
              rw [if_neg h35, letter_f, hL]
              simp only [Option.bind_some, if_true]
            · refine Ev.congr (f := fun k => lex_Scan.l0 k s (l ++ [⟨1, s.extract i (runTo nameB s i), (i : Int)⟩]) (runTo nameB s i : Int)) (fun k => ?_) (ih _ _ (by omega) hle (by simp; omega))
              rw [if_pos (by omega), if_pos (by omega), if_pos (by omega), if_pos (by omega)]
              rfl
          | false =>
            simp only [Bool.false_eq_true, if_false]
            cases hD : digitB (bt s (i : Int)) with
            | true =>
              simp only [if_true]
              have hg : i < runTo digitB s i := runTo_gt hlt hD
              have hle : runTo digitB s i ≤ s.size := runTo_le hi
              refine Ev.step (f := fun k => (lex_run.f k s (i : Int) 25).bind fun t110 => (if t110 < (s.size : Int) then (if 0 ≤ t110 then ((lex_letter.f (bt s t110)).bind fun t111 => (if t111 = true then (some (([] : List (S31)), t110, 90)) else (if 0 ≤ (i : Int) then (if (i : Int) ≤ t110 then (if t110 ≤ (s.size : Int) then (if l.length < 4398046511104 then (lex_Scan.l0 k s (l ++ [(⟨2, s.extract (i : Int).toNat (t110 : Int).toNat, (i : Int)⟩ : S31)]) t110) else (none)) else (none)) else (none)) else (none)))) else (none)) else (if 0 ≤ (i : Int) then (if (i : Int) ≤ t110 then (if t110 ≤ (s.size : Int) then (if l.length < 4398046511104 then (lex_Scan.l0 k s (l ++ [(⟨2, s.extract (i : Int).toNat (t110 : Int).toNat, (i : Int)⟩ : S31)]) t110) else (none)) else (none)) else (none)) else (none)))) (fun k => ?_) (Ev.bind (run25 hm hi) ?_)
              · simp only [lex_Scan.j1, Bool.false_eq_true, if_false]
                rw [if_neg h35, letter_f, hL, digit_f, hD]
                simp only [Option.bind_some, Bool.false_eq_true, if_false, if_true]
              · have hrest : Ev (fun k => lex_Scan.l0 k s (l ++ [⟨2, s.extract i (runTo digitB s i), (i : Int)⟩]) (runTo digitB s i : Int)) (scanF s d (l ++ [⟨2, s.extract i (runTo digitB s i), (i : Int)⟩]) (runTo digitB s i)) := ih _ _ (by omega) hle (by simp; omega)
                by_cases hc : runTo digitB s i < s.size ∧ letterB (bt s (runTo digitB s i : Int)) = true
                · rw [if_pos hc]
                  refine Ev.congr (f := fun _ => some ([], (runTo digitB s i : Int), 90)) (fun k => ?_) (Ev.now _)
                  rw [if_pos (by omega), if_pos (by omega), letter_f, hc.2]
                  rfl
                · rw [if_neg hc]
                  refine Ev.congr (f := fun k => lex_Scan.l0 k s (l ++ [⟨2, s.extract i (runTo digitB s i), (i : Int)⟩]) (runTo digitB s i : Int)) (fun k => ?_) hrest
                  by_cases hlt2 : runTo digitB s i < s.size
                  · have hF : letterB (bt s (runTo digitB s i : Int)) = false := by
                      cases hx : letterB (bt s (runTo digitB s i : Int)) with
                      | false => rfl
                      | true => exact absurd ⟨hlt2, hx⟩ hc
                    rw [if_pos (by omega), if_pos (by omega), letter_f, hF]
                    simp only [Option.bind_some, Bool.false_eq_true, if_false]
                    rw [if_pos (by omega), if_pos (by omega), if_pos (by omega), if_pos (by omega)]
                    rfl
                  · rw [if_neg (by omega), if_pos (by omega), if_pos (by omega), if_pos (by omega), if_pos (by omega)]
                    rfl
            | false =>
              simp only [Bool.false_eq_true, if_false]
              obtain ⟨j, hj1, hj2⟩ := sign_ix hbr
              cases hS : signB (bt s (i : Int)) with
              | true =>
                simp only [if_true]
                refine Ev.step (f := fun k => lex_Scan.l0 k s (l ++ [⟨3, s.extract i (i + 1), (i : Int)⟩]) ((i + 1 : Nat) : Int)) (fun k => ?_) (ih _ _ (by omega) (by omega) (by simp; omega))
                simp only [lex_Scan.j1, Bool.false_eq_true, if_false]
                rw [if_neg h35, letter_f, hL, digit_f, hD, hj1]
                simp only [Option.bind_some, Bool.false_eq_true, if_false]
                rw [if_neg (by rw [hj2, hS]; decide), if_pos (by omega), if_pos (by omega), if_pos (by omega), if_pos (by omega)]
                rfl
              | false =>
                simp only [Bool.false_eq_true, if_false]
                refine Ev.step (f := fun _ => some ([], (i : Int), 90)) (fun k => ?_) (Ev.now _)
                simp only [lex_Scan.j1, Bool.false_eq_true, if_false]
                rw [if_neg h35, letter_f, hL, digit_f, hD, hj1]
                simp only [Option.bind_some, Bool.false_eq_true, if_false]
                rw [if_pos (hj2.2 hS)]
    · refine Ev.step (f := fun _ => some (l, 0, 0)) (fun k => ?_) ?_
      · simp only [lex_Scan.l0]
        rw [if_neg (by omega)]
      · unfold scanF
        rw [if_neg hlt]
        exact Ev.now _
end Go.Proofs.Ytkonklmgkkbnmaa.Pure
