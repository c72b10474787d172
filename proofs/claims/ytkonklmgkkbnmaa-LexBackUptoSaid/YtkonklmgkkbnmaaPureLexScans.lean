/- LexScans: every Scan is the document's, in new memory each time; for every text. -/
import Derived.Test.YtkonklmgkkbnmaaPAx6
import Derived.Test.YtkonklmgkkbnmaaLexRef
namespace Go.Proofs.Ytkonklmgkkbnmaa.Pure
open Go.RowKit Go.Proofs.Ytkonklmgkkbnmaa.PA Go.Proofs.Ytkonklmgkkbnmaa.B Go.Proofs.YtkonklmgkkbnmaaW.PrintWords Go.Proofs.YtkonklmgkkbnmaaW.PrintLast Go.Proofs.YtkonklmgkkbnmaaW.PrintMore
set_option linter.unusedVariables false
set_option linter.unusedSimpArgs false
theorem scanF_len (s : ByteArray) : ∀ (d : Nat) (l : List S31) (i : Nat), i ≤ s.size → l.length ≤ i → (scanF s d l i).1.length ≤ s.size
  | 0, l, i, h, hl => by simp only [scanF]; omega
  | d + 1, l, i, h, hl => by
    unfold scanF
    split
    · rename_i hlt
      split
      · exact scanF_len s d l (i + 1) (by omega) (by omega)
      · split
        · rename_i h35
          have := runTo_ge lineB s i
          exact scanF_len s d l _ (runTo_le h) (by omega)
        · split
          · rename_i hL
            have hg : i < runTo nameB s i := runTo_gt hlt (by unfold nameB; rw [hL]; rfl)
            exact scanF_len s d _ _ (runTo_le h) (by simp; omega)
          · split
            · rename_i hD
              have hg : i < runTo digitB s i := runTo_gt hlt hD
              split
              · simp
              · exact scanF_len s d _ _ (runTo_le h) (by simp; omega)
            · split
              · exact scanF_len s d _ _ (by omega) (by simp; omega)
              · simp
    · simp only; omega
theorem scanW_len (s : ByteArray) : (scanW s).1.length ≤ 65536 := by
  unfold scanW
  split
  · simp
  · rename_i h
    have := scanF_len s s.size [] 0 (by omega) (by simp)
    omega
theorem w1l {i n : Nat} (h : i < n) (hn : n ≤ 1000000) : wrap64 ((i : Int) + 1) = ((i + 1 : Nat) : Int) := w1 h (by omega)
theorem same_ev (l : List S31) (hl : l.length ≤ 1000000) : Ev (fun k => cubitlaw09_same.f k l l) true := by
  have key : ∀ (n j : Nat), l.length - j ≤ n → j ≤ l.length → Ev (fun k => cubitlaw09_same.l0 k l l (j : Int)) true := by
    intro n
    induction n with
    | zero =>
      intro j h1 h2
      refine Ev.step (f := fun _ => some true) (fun k => ?_) (Ev.now _)
      simp only [cubitlaw09_same.l0]
      rw [if_neg (by omega)]
    | succ n ih =>
      intro j h1 h2
      by_cases hj : j < l.length
      · refine Ev.step (f := fun k => cubitlaw09_same.l0 k l l ((j + 1 : Nat) : Int)) (fun k => ?_) (ih (j + 1) (by omega) (by omega))
        simp only [cubitlaw09_same.l0]
        rw [if_pos (by omega), if_pos (by omega), if_pos (by omega), w1l hj hl]
        simp
      · refine Ev.step (f := fun _ => some true) (fun k => ?_) (Ev.now _)
        simp only [cubitlaw09_same.l0]
        rw [if_neg (by omega)]
  refine Ev.congr (f := fun k => cubitlaw09_same.l0 k l l ((0 : Nat) : Int)) (fun k => ?_) (key _ 0 (Nat.le_refl _) (Nat.zero_le _))
  unfold cubitlaw09_same.f
  simp
theorem grow_ev (x3 x9 : List S31) (h39 : x9 = x3) (h3 : x3.length ≤ 65536) : ∀ (n j : Nat) (x6 : List S31), 20 - j ≤ n → j ≤ 20 → j ≤ x6.length → x6.length ≤ 65536 + j → Ev (fun k => cubitlaw09_LexScans.l1 k x3 x6 x9 (j : Int)) true := by
  intro n
  induction n with
  | zero =>
    intro j x6 h1 h2 h4 h5
    obtain rfl : j = 20 := by omega
    subst h39
    refine Ev.step (f := fun k => (cubitlaw09_same.f k x9 x9).bind fun t185 => (if t185 = true then (some (decide ((x6.length : Int) ≥ 20))) else (some false))) (fun k => ?_) (Ev.bind (same_ev x9 (by omega)) ?_)
    · simp only [cubitlaw09_LexScans.l1]
      rw [if_neg (by omega)]
    · refine Ev.congr (f := fun _ => some true) (fun k => ?_) (Ev.now _)
      rw [if_pos rfl, decide_eq_true (by omega)]
  | succ n ih =>
    intro j x6 h1 h2 h4 h5
    by_cases hj : j < 20
    · refine Ev.step (f := fun k => cubitlaw09_LexScans.l1 k x3 (x6 ++ [⟨0, ⟨#[]⟩, 0⟩]) x9 ((j + 1 : Nat) : Int)) (fun k => ?_) (ih (j + 1) _ (by omega) (by omega) (by simp; omega) (by simp; omega))
      simp only [cubitlaw09_LexScans.l1]
      rw [if_pos (by omega), if_pos (by omega), w1l (n := 20) hj (by omega)]
    · obtain rfl : j = 20 := by omega
      subst h39
      refine Ev.step (f := fun k => (cubitlaw09_same.f k x9 x9).bind fun t185 => (if t185 = true then (some (decide ((x6.length : Int) ≥ 20))) else (some false))) (fun k => ?_) (Ev.bind (same_ev x9 (by omega)) ?_)
      · simp only [cubitlaw09_LexScans.l1]
        rw [if_neg (by omega)]
      · refine Ev.congr (f := fun _ => some true) (fun k => ?_) (Ev.now _)
        rw [if_pos rfl, decide_eq_true (by omega)]
theorem wipe_ev (x3 x9 : List S31) (h39 : x9 = x3) (h3 : x3.length ≤ 65536) : ∀ (n j : Nat) (x6 : List S31), x6.length - j ≤ n → j ≤ x6.length → x6.length ≤ 65536 → Ev (fun k => cubitlaw09_LexScans.l0 k x3 x6 x9 (j : Int)) true := by
  intro n
  induction n with
  | zero =>
    intro j x6 h1 h2 h5
    refine Ev.step (f := fun k => cubitlaw09_LexScans.l1 k x3 x6 x9 ((0 : Nat) : Int)) (fun k => ?_) (grow_ev x3 x9 h39 h3 _ 0 x6 (Nat.le_refl _) (by omega) (by omega) (by omega))
    simp only [cubitlaw09_LexScans.l0]
    rw [if_neg (by omega)]
    rfl
  | succ n ih =>
    intro j x6 h1 h2 h5
    by_cases hj : j < x6.length
    · refine Ev.step (f := fun k => cubitlaw09_LexScans.l0 k x3 (x6.set j ⟨0, ⟨#[]⟩, 0⟩) x9 ((j + 1 : Nat) : Int)) (fun k => ?_) (ih (j + 1) _ (by simp; omega) (by simp; omega) (by simp; omega))
      simp only [cubitlaw09_LexScans.l0]
      rw [if_pos (by omega), if_pos (by omega), w1l hj (by omega)]
      rfl
    · refine Ev.step (f := fun k => cubitlaw09_LexScans.l1 k x3 x6 x9 ((0 : Nat) : Int)) (fun k => ?_) (grow_ev x3 x9 h39 h3 _ 0 x6 (Nat.le_refl _) (by omega) (by omega) (by omega))
      simp only [cubitlaw09_LexScans.l0]
      rw [if_neg (by omega)]
      rfl
theorem awake_ev : Ev (fun k => cubitlaw09_awake.f k) true := Ev.of cubitlaw09_awake.mono (k := 40) (by decide +kernel)
theorem LexScans : cubitlaw09_LexScans.Pure := by
  intro s hs
  refine Ev.rounds (r := true) ?_
  have hl := scanW_len s
  unfold cubitlaw09_LexScans.f
  refine Ev.bind awake_ev ?_
  simp only [if_true]
  refine Ev.bind (scan_ref s) (Ev.bind (scan_prog s) (Ev.bind (scan_prog s) (Ev.bind (same_ev _ (by omega)) ?_)))
  simp only [if_true]
  refine Ev.bind (same_ev _ (by omega)) ?_
  simp only [Bool.not_true]
  refine Ev.step (f := fun k => cubitlaw09_LexScans.l0 k (scanW s).1 (scanW s).1 (scanW s).1 ((0 : Nat) : Int)) (fun k => ?_) (wipe_ev _ _ rfl hl _ 0 _ (Nat.le_refl _) (by omega) hl)
  simp only [cubitlaw09_LexScans.j0, Bool.false_eq_true, if_false]
  rfl
end Go.Proofs.Ytkonklmgkkbnmaa.Pure
