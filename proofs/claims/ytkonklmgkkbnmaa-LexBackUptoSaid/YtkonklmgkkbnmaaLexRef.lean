/- The document's scanner comes to the same plain function. -/
import Derived.Test.YtkonklmgkkbnmaaPAx5
import Derived.Test.YtkonklmgkkbnmaaLexSpec
namespace Go.Proofs.Ytkonklmgkkbnmaa.Pure
open Go.RowKit Go.Proofs.Ytkonklmgkkbnmaa.PA Go.Proofs.Ytkonklmgkkbnmaa.B Go.Proofs.YtkonklmgkkbnmaaW.PrintWords Go.Proofs.YtkonklmgkkbnmaaW.PrintLast Go.Proofs.YtkonklmgkkbnmaaW.PrintMore
set_option linter.unusedVariables false
set_option linter.unusedSimpArgs false
theorem rletter_f (b : Int) : cubitref09_letter.f b = some (letterB b) := letter_f b
theorem rdigit_f (b : Int) : cubitref09_digit.f b = some (digitB b) := digit_f b
theorem rblank_f (b : Int) : cubitref09_blank.f b = some (blankB b) := by
  unfold cubitref09_blank.f blankB
  by_cases h1 : b = 9 <;> by_cases h2 : b = 10 <;> by_cases h3 : b = 13 <;> simp [h1, h2, h3, show ∀ c, ¬ b = c → (b == c) = false from fun c h => beq_eq_false_iff_ne.mpr h]
theorem rsign_f (b : Int) : cubitref09_isSign.f b = some (signB b) := by
  unfold cubitref09_isSign.f signB
  by_cases h1 : b = 123 <;> by_cases h2 : b = 125 <;> by_cases h3 : b = 91 <;> by_cases h4 : b = 93 <;> by_cases h5 : b = 59 <;> simp [h1, h2, h3, h4, h5, show ∀ c, ¬ b = c → (b == c) = false from fun c h => beq_eq_false_iff_ne.mpr h]
theorem ref_ev (s : ByteArray) (hs : s.size ≤ 65536) : ∀ (d : Nat) (l : List S31) (i : Nat), s.size - i ≤ d → i ≤ s.size → l.length ≤ i → Ev (fun k => cubitref09_Scan.l0 k s l (i : Int)) (scanF s d l i) := by
  have hm : s.size ≤ 140737488351232 := by omega
  intro d
  induction d with
  | zero =>
    intro l i h hi hl
    refine Ev.step (f := fun _ => some (l, 0, 0)) (fun k => ?_) (Ev.now _)
    simp only [cubitref09_Scan.l0]
    rw [if_neg (by omega)]
  | succ d ih =>
    intro l i h hi hl
    by_cases hlt : i < s.size
    · unfold scanF
      rw [if_pos hlt]
      cases hb : blankB (bt s (i : Int)) with
      | true =>
        simp only [if_true]
        refine Ev.step (f := fun k => cubitref09_Scan.l0 k s l ((i + 1 : Nat) : Int)) (fun k => ?_) (ih l (i + 1) (by omega) (by omega) (by omega))
        simp only [cubitref09_Scan.l0]
        rw [if_pos (by omega), if_pos (by omega), rblank_f, hb, w1 hlt hm]
        rfl
      | false =>
        simp only [Bool.false_eq_true, if_false]
        by_cases h35 : bt s (i : Int) = 35
        · rw [if_pos h35]
          have hg : i < runTo lineB s i := runTo_gt hlt (by rw [h35]; rfl)
          have hle : runTo lineB s i ≤ s.size := runTo_le hi
          refine Ev.step (f := fun k => cubitref09_Scan.l1 k s l (i : Int)) (fun k => ?_) ?_
          · simp only [cubitref09_Scan.l0]
            rw [if_pos (by omega), if_pos (by omega), rblank_f, hb]
            simp only [Option.bind_some, Bool.false_eq_true, if_false]
            rw [if_pos h35]
          · have key : ∀ (n j : Nat), s.size - j ≤ n → j ≤ s.size → i ≤ j → runTo lineB s j = runTo lineB s i → Ev (fun k => cubitref09_Scan.l1 k s l (j : Int)) (scanF s d l (runTo lineB s i)) := by
              intro n
              induction n with
              | zero =>
                intro j h1 h2 h3 h4
                refine Ev.step (f := fun k => cubitref09_Scan.l0 k s l (j : Int)) (fun k => ?_) ?_
                · simp only [cubitref09_Scan.l1]
                  rw [if_neg (by omega)]
                · rw [← h4, runTo_stop (fun h' => by omega)]
                  exact ih l j (by omega) h2 (by omega)
              | succ n ihn =>
                intro j h1 h2 h3 h4
                by_cases hj : j < s.size
                · by_cases h10 : bt s (j : Int) = 10
                  · have e : runTo lineB s j = j := runTo_stop (fun _ => by rw [h10]; rfl)
                    refine Ev.step (f := fun k => cubitref09_Scan.l0 k s l (j : Int)) (fun k => ?_) ?_
                    · simp only [cubitref09_Scan.l1]
                      rw [if_pos (by omega), if_pos (by omega), if_pos h10]
                    · rw [← h4, e]
                      rw [e] at h4
                      exact ih l j (by omega) h2 (by omega)
                  · refine Ev.step (f := fun k => cubitref09_Scan.l1 k s l ((j + 1 : Nat) : Int)) (fun k => ?_) (ihn (j + 1) (by omega) (by omega) (by omega) ?_)
                    · simp only [cubitref09_Scan.l1]
                      rw [if_pos (by omega), if_pos (by omega), if_neg h10, w1 hj hm]
                    · rw [← runTo_step hj (by unfold lineB; simpa using h10), h4]
                · refine Ev.step (f := fun k => cubitref09_Scan.l0 k s l (j : Int)) (fun k => ?_) ?_
                  · simp only [cubitref09_Scan.l1]
                    rw [if_neg (by omega)]
                  · rw [← h4, runTo_stop (fun h' => absurd h' hj)]
                    exact ih l j (by omega) h2 (by omega)
            exact key _ i (Nat.le_refl _) hi (Nat.le_refl _) rfl
        · rw [if_neg h35]
          cases hL : letterB (bt s (i : Int)) with
          | true =>
            simp only [if_true]
            have hg : i < runTo nameB s i := runTo_gt hlt (by unfold nameB; rw [hL]; rfl)
            have hle : runTo nameB s i ≤ s.size := runTo_le hi
            refine Ev.step (f := fun k => cubitref09_Scan.l2 k s l (i : Int) (i : Int)) (fun k => ?_) ?_
            · simp only [cubitref09_Scan.l0]
              rw [if_pos (by omega), if_pos (by omega), rblank_f, hb]
              simp only [Option.bind_some, Bool.false_eq_true, if_false]
              rw [if_neg h35, rletter_f, hL]
              rfl
            · have fin : ∀ j : Nat, j = runTo nameB s i → Ev (fun k => if 0 ≤ (i : Int) then (if (i : Int) ≤ (j : Int) then (if (j : Int) ≤ (s.size : Int) then (if l.length < 4398046511104 then (cubitref09_Scan.l0 k s (l ++ [(⟨1, s.extract (i : Int).toNat (j : Int).toNat, (i : Int)⟩ : S31)]) (j : Int)) else (none)) else (none)) else (none)) else (none)) (scanF s d (l ++ [⟨1, s.extract i (runTo nameB s i), (i : Int)⟩]) (runTo nameB s i)) := by
                intro j hj
                subst hj
                refine Ev.congr (f := fun k => cubitref09_Scan.l0 k s (l ++ [⟨1, s.extract i (runTo nameB s i), (i : Int)⟩]) (runTo nameB s i : Int)) (fun k => ?_) (ih _ _ (by omega) hle (by simp; omega))
                rw [if_pos (by omega), if_pos (by omega), if_pos (by omega), if_pos (by omega)]
                rfl
              have key : ∀ (n j : Nat), s.size - j ≤ n → j ≤ s.size → i ≤ j → runTo nameB s j = runTo nameB s i → Ev (fun k => cubitref09_Scan.l2 k s l (j : Int) (i : Int)) (scanF s d (l ++ [⟨1, s.extract i (runTo nameB s i), (i : Int)⟩]) (runTo nameB s i)) := by
                intro n
                induction n with
                | zero =>
                  intro j h1 h2 h3 h4
                  rw [runTo_stop (fun h' => by omega)] at h4
                  refine Ev.step (fun k => ?_) (fin j h4)
                  simp only [cubitref09_Scan.l2]
                  rw [if_neg (by omega)]
                | succ n ihn =>
                  intro j h1 h2 h3 h4
                  by_cases hj : j < s.size
                  · cases hn : nameB (bt s (j : Int)) with
                    | true =>
                      refine Ev.step (f := fun k => cubitref09_Scan.l2 k s l ((j + 1 : Nat) : Int) (i : Int)) (fun k => ?_) (ihn (j + 1) (by omega) (by omega) (by omega) (by rw [← runTo_step hj hn, h4]))
                      simp only [cubitref09_Scan.l2]
                      rw [if_pos (by omega), if_pos (by omega), rletter_f, rdigit_f, w1 hj hm]
                      unfold nameB at hn
                      cases hl2 : letterB (bt s (j : Int)) with
                      | true => rfl
                      | false =>
                        rw [hl2, Bool.false_or] at hn
                        rw [hn]
                        rfl
                    | false =>
                      rw [runTo_stop (fun _ => hn)] at h4
                      refine Ev.step (fun k => ?_) (fin j h4)
                      simp only [cubitref09_Scan.l2]
                      unfold nameB at hn
                      rw [Bool.or_eq_false_iff] at hn
                      rw [if_pos (by omega), if_pos (by omega), rletter_f, rdigit_f, hn.1, hn.2]
                      rfl
                  · rw [runTo_stop (fun h' => absurd h' hj)] at h4
                    refine Ev.step (fun k => ?_) (fin j h4)
                    simp only [cubitref09_Scan.l2]
                    rw [if_neg (by omega)]
              exact key _ i (Nat.le_refl _) hi (Nat.le_refl _) rfl
          | false =>
            simp only [Bool.false_eq_true, if_false]
            cases hD : digitB (bt s (i : Int)) with
            | true =>
              simp only [if_true]
              have hg : i < runTo digitB s i := runTo_gt hlt hD
              have hle : runTo digitB s i ≤ s.size := runTo_le hi
              refine Ev.step (f := fun k => cubitref09_Scan.l3 k s l (i : Int) (i : Int)) (fun k => ?_) ?_
              · simp only [cubitref09_Scan.l0]
                rw [if_pos (by omega), if_pos (by omega), rblank_f, hb]
                simp only [Option.bind_some, Bool.false_eq_true, if_false]
                rw [if_neg h35, rletter_f, hL, rdigit_f, hD]
                rfl
              · have fin : ∀ j : Nat, j = runTo digitB s i → Ev (fun k => if 0 ≤ (i : Int) then (if (i : Int) ≤ (j : Int) then (if (j : Int) ≤ (s.size : Int) then (if l.length < 4398046511104 then (cubitref09_Scan.l0 k s (l ++ [(⟨2, s.extract (i : Int).toNat (j : Int).toNat, (i : Int)⟩ : S31)]) (j : Int)) else (none)) else (none)) else (none)) else (none)) (scanF s d (l ++ [⟨2, s.extract i (runTo digitB s i), (i : Int)⟩]) (runTo digitB s i)) := by
                  intro j hj
                  subst hj
                  refine Ev.congr (f := fun k => cubitref09_Scan.l0 k s (l ++ [⟨2, s.extract i (runTo digitB s i), (i : Int)⟩]) (runTo digitB s i : Int)) (fun k => ?_) (ih _ _ (by omega) hle (by simp; omega))
                  rw [if_pos (by omega), if_pos (by omega), if_pos (by omega), if_pos (by omega)]
                  rfl
                have key : ∀ (n j : Nat), s.size - j ≤ n → j ≤ s.size → i ≤ j → runTo digitB s j = runTo digitB s i → Ev (fun k => cubitref09_Scan.l3 k s l (j : Int) (i : Int)) (if runTo digitB s i < s.size ∧ letterB (bt s (runTo digitB s i : Int)) = true then ([], (runTo digitB s i : Int), 90) else scanF s d (l ++ [⟨2, s.extract i (runTo digitB s i), (i : Int)⟩]) (runTo digitB s i)) := by
                  intro n
                  induction n with
                  | zero =>
                    intro j h1 h2 h3 h4
                    rw [runTo_stop (fun h' => by omega)] at h4
                    rw [if_neg (by omega)]
                    refine Ev.step (fun k => ?_) (fin j h4)
                    simp only [cubitref09_Scan.l3]
                    rw [if_neg (by omega)]
                  | succ n ihn =>
                    intro j h1 h2 h3 h4
                    by_cases hj : j < s.size
                    · cases hn : digitB (bt s (j : Int)) with
                      | true =>
                        refine Ev.step (f := fun k => cubitref09_Scan.l3 k s l ((j + 1 : Nat) : Int) (i : Int)) (fun k => ?_) (ihn (j + 1) (by omega) (by omega) (by omega) (by rw [← runTo_step hj hn, h4]))
                        simp only [cubitref09_Scan.l3]
                        rw [if_pos (by omega), if_pos (by omega), rdigit_f, hn, w1 hj hm]
                        rfl
                      | false =>
                        rw [runTo_stop (fun _ => hn)] at h4
                        rw [← h4]
                        rw [← h4] at fin
                        cases hl2 : letterB (bt s (j : Int)) with
                        | true =>
                          rw [if_pos ⟨hj, rfl⟩]
                          refine Ev.step (f := fun _ => some ([], (j : Int), 90)) (fun k => ?_) (Ev.now _)
                          simp only [cubitref09_Scan.l3]
                          rw [if_pos (by omega), if_pos (by omega), rdigit_f, hn, rletter_f, hl2]
                          rfl
                        | false =>
                          rw [if_neg (fun hh => by cases hh.2)]
                          refine Ev.step (fun k => ?_) (fin j rfl)
                          simp only [cubitref09_Scan.l3]
                          rw [if_pos (by omega), if_pos (by omega), rdigit_f, hn, rletter_f, hl2]
                          rfl
                    · rw [runTo_stop (fun h' => absurd h' hj)] at h4
                      rw [if_neg (by omega)]
                      refine Ev.step (fun k => ?_) (fin j h4)
                      simp only [cubitref09_Scan.l3]
                      rw [if_neg (by omega)]
                exact key _ i (Nat.le_refl _) hi (Nat.le_refl _) rfl
            | false =>
              simp only [Bool.false_eq_true, if_false]
              cases hS : signB (bt s (i : Int)) with
              | true =>
                simp only [if_true]
                refine Ev.step (f := fun k => cubitref09_Scan.l0 k s (l ++ [⟨3, s.extract i (i + 1), (i : Int)⟩]) ((i + 1 : Nat) : Int)) (fun k => ?_) (ih _ _ (by omega) (by omega) (by simp; omega))
                simp only [cubitref09_Scan.l0]
                rw [if_pos (by omega), if_pos (by omega), rblank_f, hb]
                simp only [Option.bind_some, Bool.false_eq_true, if_false]
                rw [if_neg h35, rletter_f, hL, rdigit_f, hD, rsign_f, hS, w1 hlt hm]
                simp only [Option.bind_some, Bool.false_eq_true, if_false, if_true]
                rw [if_pos (by omega), if_pos (by omega), if_pos (by omega)]
                rfl
              | false =>
                simp only [Bool.false_eq_true, if_false]
                refine Ev.step (f := fun _ => some ([], (i : Int), 90)) (fun k => ?_) (Ev.now _)
                simp only [cubitref09_Scan.l0]
                rw [if_pos (by omega), if_pos (by omega), rblank_f, hb]
                simp only [Option.bind_some, Bool.false_eq_true, if_false]
                rw [if_neg h35, rletter_f, hL, rdigit_f, hD, rsign_f, hS]
                rfl
    · refine Ev.step (f := fun _ => some (l, 0, 0)) (fun k => ?_) ?_
      · simp only [cubitref09_Scan.l0]
        rw [if_neg (by omega)]
      · unfold scanF
        rw [if_neg hlt]
        exact Ev.now _
/-- What both Scans answer. -/
def scanW (s : ByteArray) : List S31 × Int × Int := if s.size > 65536 then ([], 0, 1) else scanF s s.size [] 0
theorem scan_prog (s : ByteArray) : Ev (fun k => lex_Scan.f k s) (scanW s) := by
  unfold scanW
  by_cases h : s.size > 65536
  · rw [if_pos h]
    refine Ev.congr (f := fun _ => some ([], 0, 1)) (fun k => ?_) (Ev.now _)
    unfold lex_Scan.f
    rw [if_pos (by omega)]
  · rw [if_neg h]
    refine Ev.congr (f := fun k => lex_Scan.l0 k s [] ((0 : Nat) : Int)) (fun k => ?_) (prog_ev s (by omega) _ [] 0 (by omega) (by omega) (by simp))
    unfold lex_Scan.f
    rw [if_neg (by omega)]
    rfl
theorem scan_ref (s : ByteArray) : Ev (fun k => cubitref09_Scan.f k s) (scanW s) := by
  unfold scanW
  by_cases h : s.size > 65536
  · rw [if_pos h]
    refine Ev.congr (f := fun _ => some ([], 0, 1)) (fun k => ?_) (Ev.now _)
    unfold cubitref09_Scan.f
    rw [if_pos (by omega)]
  · rw [if_neg h]
    refine Ev.congr (f := fun k => cubitref09_Scan.l0 k s [] ((0 : Nat) : Int)) (fun k => ?_) (ref_ev s (by omega) _ [] 0 (by omega) (by omega) (by simp))
    unfold cubitref09_Scan.f
    rw [if_neg (by omega)]
    rfl
end Go.Proofs.Ytkonklmgkkbnmaa.Pure
