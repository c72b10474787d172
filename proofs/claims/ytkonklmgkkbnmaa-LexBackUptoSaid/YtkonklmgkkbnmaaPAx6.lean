/- Printed for this claim by a program of the session: contracts of Go functions: a call answers what its Lean function tells, wherever that tells something. -/
import Derived.Test.YtkonklmgkkbnmaaPAx0
import Derived.Test.YtkonklmgkkbnmaaPAx1
import Derived.Test.YtkonklmgkkbnmaaPAx3
import Derived.Test.YtkonklmgkkbnmaaPAx5
namespace Go.Proofs.Ytkonklmgkkbnmaa.PA
open Go.RowKit Go.Proofs.YtkonklmgkkbnmaaW.PrintWords Go.Proofs.YtkonklmgkkbnmaaW.PrintLast Go.Proofs.YtkonklmgkkbnmaaW.PrintMore
attribute [local go_sem] max2_int min2_int max_two min_two max_three min_three max_four min_four   -- for this text's walks alone
set_option linter.unusedVariables false
set_option linter.unusedSimpArgs false

attribute [local go_sem high] eqA31
/-! ### cubitlaw09_same: function 11 -/
def cubitlaw09_same.l0 : Nat → List (S31) → List (S31) → Int → Option (Bool)
  | 0, _, _, _ => none
  | k + 1, x0, x1, x5 => if x5 < (x0.length : Int) then (if 0 ≤ x5 then (if x5 < (x1.length : Int) then (if (!(((rd_T31 x0 x5).f0) == ((rd_T31 x1 x5).f0)) || (!((((rd_T31 x0 x5).f1).toList) == (((rd_T31 x1 x5).f1).toList)) || (!(((rd_T31 x0 x5).f2) == ((rd_T31 x1 x5).f2))))) = true then (some false) else (cubitlaw09_same.l0 k x0 x1 (wrap64 (x5 + 1)))) else (none)) else (none)) else (some true)
def cubitlaw09_same.f (k : Nat) (l0 : List (S31)) (l1 : List (S31)) : Option (Bool) := if (l0.length : Int) = (l1.length : Int) then (cubitlaw09_same.l0 k l0 l1 0) else (some false)
theorem cubitlaw09_same.mono_l : ∀ k, (∀ y0 y1 y2, LeO (cubitlaw09_same.l0 k y0 y1 y2) (cubitlaw09_same.l0 (k + 1) y0 y1 y2))
  | 0 => fun _ _ _ r h => by simp [cubitlaw09_same.l0] at h
  | k + 1 => by
    have ih0 := cubitlaw09_same.mono_l k
    · intro y0 y1 y2
      unfold cubitlaw09_same.l0
      repeat' first
      | (with_reducible exact ih0 _ _ _)
      | (with_reducible exact LeO.refl _)
      | (with_reducible exact LeO.none _)
      | (with_reducible refine LeO.ite ?_ ?_)
      | (with_reducible refine LeO.bind ?_ (fun _ => ?_))
      | exact ih0 _ _ _
      | exact LeO.none _
      | refine LeO.ite ?_ ?_
      | refine LeO.bind ?_ (fun _ => ?_)
theorem cubitlaw09_same.mono : ∀ a0 a1 k, LeO (cubitlaw09_same.f k a0 a1) (cubitlaw09_same.f (k + 1) a0 a1) := by
  intro a0 a1 k
  have ih0 := cubitlaw09_same.mono_l k
  unfold cubitlaw09_same.f
  repeat' first
      | (with_reducible exact ih0 _ _ _)
      | (with_reducible exact LeO.refl _)
      | (with_reducible exact LeO.none _)
      | (with_reducible refine LeO.ite ?_ ?_)
      | (with_reducible refine LeO.bind ?_ (fun _ => ?_))
      | exact ih0 _ _ _
      | exact LeO.none _
      | refine LeO.ite ?_ ?_
      | refine LeO.bind ?_ (fun _ => ?_)
set_option maxHeartbeats 8000000 in
set_option maxRecDepth 100000 in
theorem cubitlaw09_same.calls (k : Nat) (A0 : Option Addr) (c0 : Nat) (l0 : List (S31)) (A1 : Option Addr) (c1 : Nat) (l1 : List (S31)) (r : Bool) (w : World) (hr0 : Kd.C k31 w A0 l0.length l0) (hc0 : l0.length ≤ c0) (hr1 : Kd.C k31 w A1 l1.length l1) (hc1 : l1.length ≤ c1) (h : cubitlaw09_same.f k l0 l1 = some r) :
    Calls Try.prog 11 #[.slice A0 l0.length c0, .slice A1 l1.length c1] w fun e w' => e = .returned (.bool r) ∧ Drawn0 w w' := by
  have hu31 := Try.underlying31
  have HR0 := Aside0.mk hr0
  have HC0 := Aside0.mk hc0
  clear hr0 hc0
  have HR1 := Aside0.mk hr1
  have HC1 := Aside0.mk hc1
  clear hr1 hc1
  have H : (if (l0.length : Int) = (l1.length : Int) then (cubitlaw09_same.l0 k l0 l1 0) else (some false)) = some r := h
  clear h
  by_cases c3 : (l0.length : Int) = (l1.length : Int)
  · rw [if_pos c3] at H
    have c3b0 : ((l0.length : Int) == (l1.length : Int)) = true := beq_iff_eq.mpr c3
    have c3b1 : ((l0.length : Int) != (l1.length : Int)) = false := bne_eq_false_iff_eq.mpr c3
    have c3b2 : (l0.length == l1.length) = true := by first | simpa using c3 | (simp at c3 ⊢; omega)
    clear c3
    have H' := Aside0.mk H
    clear H
    go_enter Try.func11, Try.ntmps11
    go_wp2
    repeat (go_quiet (fail); try go_wp2)
    go_loopg [5] k (fun kq v5 w' => ∃ (x5_1 : Int), v5 = .int .i64 x5_1 ∧ Aside0 (cubitlaw09_same.l0 kq l0 l1 x5_1 = some r) ∧ Aside0 (kq ≤ k) ∧ Drawn0 w w')
    case atStart => exact ⟨(0), (by first | rfl | (simp; done) | (simp [*]; done)), H', ⟨Nat.le_refl _⟩, by repeat (first | exact Drawn0.refl _ | apply Drawn0.step)⟩
    case round =>
      clear H'
      try clear c1
      try clear p2
      try clear c3
      try clear c3b0
      try clear c3b1
      try clear c3b2
      obtain ⟨x5_1, rfl, HA, HK1, ⟨m1, rfl⟩⟩ := hrel
      cases gk with
      | zero => exact absurd HA.out (by simp [cubitlaw09_same.l0])
      | succ k1 =>
        have H := HA.out
        clear HA
        simp only [cubitlaw09_same.l0] at H
        by_cases c4 : x5_1 < (l0.length : Int)
        · rw [if_pos c4] at H
          have c4b0 : decide (x5_1 < (l0.length : Int)) = true := decide_eq_true c4
          clear c4
          by_cases c5 : 0 ≤ x5_1
          · rw [if_pos c5] at H
            have c5b0 : decide (0 ≤ x5_1) = true := decide_eq_true c5
            clear c5
            by_cases c6 : x5_1 < (l1.length : Int)
            · rw [if_pos c6] at H
              have c6b0 : decide (x5_1 < (l1.length : Int)) = true := decide_eq_true c6
              clear c6
              by_cases c7 : (!(((rd_T31 l0 x5_1).f0) == ((rd_T31 l1 x5_1).f0)) || (!((((rd_T31 l0 x5_1).f1).toList) == (((rd_T31 l1 x5_1).f1).toList)) || (!(((rd_T31 l0 x5_1).f2) == ((rd_T31 l1 x5_1).f2))))) = true
              · rw [if_pos c7] at H
                have c7b0 : (!(((rd_T31 l0 x5_1).f0) == ((rd_T31 l1 x5_1).f0)) || (!((((rd_T31 l0 x5_1).f1).toList) == (((rd_T31 l1 x5_1).f1).toList)) || (!(((rd_T31 l0 x5_1).f2) == ((rd_T31 l1 x5_1).f2))))) = true := c7
                clear c7
                obtain rfl := Option.some.inj H
                have p161 : 0 ≤ (x5_1 : Int) := of_decide_eq_true (by first | (with_reducible assumption) | assumption)
                have q161 : x5_1 < (l0.length : Int) := of_decide_eq_true (by first | (with_reducible assumption) | assumption)
                obtain ⟨ad161, e161, hx161_0, hx161_1, hx161_2⟩ := at_T31 HR0.out x5_1 p161 q161
                cases e161
                replace p161 := eq_true p161
                replace q161 := eq_true q161
                have p162 : 0 ≤ (x5_1 : Int) := of_decide_eq_true (by first | (with_reducible assumption) | assumption)
                have q162 : x5_1 < (l1.length : Int) := of_decide_eq_true (by first | (with_reducible assumption) | assumption)
                obtain ⟨ad162, e162, hx162_0, hx162_1, hx162_2⟩ := at_T31 HR1.out x5_1 p162 q162
                cases e162
                replace p162 := eq_true p162
                replace q162 := eq_true q162
                go_wp2
                repeat (go_quiet (fail); try go_wp2)
                go_ret
                exact ⟨by first | rfl | (simp; done) | (simp [*]; done), by repeat (first | exact Drawn0.refl _ | apply Drawn0.step)⟩
              · rw [if_neg c7] at H
                have c7b0 : (!(((rd_T31 l0 x5_1).f0) == ((rd_T31 l1 x5_1).f0)) || (!((((rd_T31 l0 x5_1).f1).toList) == (((rd_T31 l1 x5_1).f1).toList)) || (!(((rd_T31 l0 x5_1).f2) == ((rd_T31 l1 x5_1).f2))))) = false := by simpa using c7
                clear c7
                have H' := Aside0.mk H
                clear H
                have p161 : 0 ≤ (x5_1 : Int) := of_decide_eq_true (by first | (with_reducible assumption) | assumption)
                have q161 : x5_1 < (l0.length : Int) := of_decide_eq_true (by first | (with_reducible assumption) | assumption)
                obtain ⟨ad161, e161, hx161_0, hx161_1, hx161_2⟩ := at_T31 HR0.out x5_1 p161 q161
                cases e161
                replace p161 := eq_true p161
                replace q161 := eq_true q161
                have p162 : 0 ≤ (x5_1 : Int) := of_decide_eq_true (by first | (with_reducible assumption) | assumption)
                have q162 : x5_1 < (l1.length : Int) := of_decide_eq_true (by first | (with_reducible assumption) | assumption)
                obtain ⟨ad162, e162, hx162_0, hx162_1, hx162_2⟩ := at_T31 HR1.out x5_1 p162 q162
                cases e162
                replace p162 := eq_true p162
                replace q162 := eq_true q162
                go_wp2
                repeat (go_quiet (fail); try go_wp2)
                go_roundg k1
                case measure => have := HK1.out; omega
                case rel => exact ⟨(wrap64 (x5_1 + 1)), (by first | rfl | (simp; done) | (simp [*]; done)), H', ⟨by have := HK1.out; omega⟩, by repeat (first | exact Drawn0.refl _ | apply Drawn0.step)⟩
            · rw [if_neg c6] at H
              exact absurd H (by simp)
          · rw [if_neg c5] at H
            exact absurd H (by simp)
        · rw [if_neg c4] at H
          have c4b0 : decide (x5_1 < (l0.length : Int)) = false := decide_eq_false c4
          clear c4
          obtain rfl := Option.some.inj H
          go_wp2
          repeat (go_quiet (fail); try go_wp2)
          go_ret
          exact ⟨by first | rfl | (simp; done) | (simp [*]; done), by repeat (first | exact Drawn0.refl _ | apply Drawn0.step)⟩
  · rw [if_neg c3] at H
    have c3b0 : ((l0.length : Int) == (l1.length : Int)) = false := beq_eq_false_iff_ne.mpr c3
    have c3b1 : ((l0.length : Int) != (l1.length : Int)) = true := bne_iff_ne.mpr c3
    have c3b2 : (l0.length == l1.length) = false := by first | simpa using c3 | (simp at c3 ⊢; omega)
    obtain rfl := Option.some.inj H
    go_enter Try.func11, Try.ntmps11
    go_wp2
    repeat (go_quiet (fail); try go_wp2)
    go_ret
    exact ⟨by first | rfl | (simp; done) | (simp [*]; done), by repeat (first | exact Drawn0.refl _ | apply Drawn0.step)⟩

/-! ### cubitlaw09_LexScans: function 3 -/
mutual
def cubitlaw09_LexScans.j0 : Nat → List (S31) → List (S31) → List (S31) → Bool → Option (Bool)
  | 0, _, _, _, _ => none
  | k + 1, x3, x6, x9, x53 => if x53 = true then (some false) else (cubitlaw09_LexScans.l0 k x3 x6 x9 0)
def cubitlaw09_LexScans.l0 : Nat → List (S31) → List (S31) → List (S31) → Int → Option (Bool)
  | 0, _, _, _, _ => none
  | k + 1, x3, x6, x9, x12 => if x12 < (x6.length : Int) then (if 0 ≤ x12 then (cubitlaw09_LexScans.l0 k x3 (x6.set (x12 : Int).toNat (⟨0, (⟨#[]⟩ : ByteArray), 0⟩ : S31)) x9 (wrap64 (x12 + 1))) else (none)) else (cubitlaw09_LexScans.l1 k x3 x6 x9 0)
def cubitlaw09_LexScans.l1 : Nat → List (S31) → List (S31) → List (S31) → Int → Option (Bool)
  | 0, _, _, _, _ => none
  | k + 1, x3, x6, x9, x13 => if x13 < 20 then (if x6.length < 4398046511104 then (cubitlaw09_LexScans.l1 k x3 (x6 ++ [(⟨0, (⟨#[]⟩ : ByteArray), 0⟩ : S31)]) x9 (wrap64 (x13 + 1))) else (none)) else ((cubitlaw09_same.f k x9 x3).bind fun t185 => (if t185 = true then (some (decide ((x6.length : Int) ≥ 20))) else (some false)))
end
def cubitlaw09_LexScans.f (k : Nat) (a0 : ByteArray) : Option (Bool) := (cubitlaw09_awake.f k).bind fun t163 => (if t163 = true then ((cubitref09_Scan.f k a0).bind fun bt164 => ((lex_Scan.f k a0).bind fun bt169 => ((lex_Scan.f k a0).bind fun bt174 => ((cubitlaw09_same.f k bt169.1 bt164.1).bind fun t179 => (if t179 = true then (if bt169.2.1 = bt164.2.1 then (if bt169.2.2 = bt164.2.2 then ((cubitlaw09_same.f k bt174.1 bt164.1).bind fun t180 => (cubitlaw09_LexScans.j0 k bt164.1 bt169.1 bt174.1 (!t180))) else (cubitlaw09_LexScans.j0 k bt164.1 bt169.1 bt174.1 true)) else (cubitlaw09_LexScans.j0 k bt164.1 bt169.1 bt174.1 true)) else (cubitlaw09_LexScans.j0 k bt164.1 bt169.1 bt174.1 true)))))) else (some false))
theorem cubitlaw09_LexScans.mono_l : ∀ k, (∀ y0 y1 y2 y3, LeO (cubitlaw09_LexScans.j0 k y0 y1 y2 y3) (cubitlaw09_LexScans.j0 (k + 1) y0 y1 y2 y3)) ∧ (∀ y0 y1 y2 y3, LeO (cubitlaw09_LexScans.l0 k y0 y1 y2 y3) (cubitlaw09_LexScans.l0 (k + 1) y0 y1 y2 y3)) ∧ (∀ y0 y1 y2 y3, LeO (cubitlaw09_LexScans.l1 k y0 y1 y2 y3) (cubitlaw09_LexScans.l1 (k + 1) y0 y1 y2 y3))
  | 0 => ⟨fun _ _ _ _ r h => by simp [cubitlaw09_LexScans.j0] at h, fun _ _ _ _ r h => by simp [cubitlaw09_LexScans.l0] at h, fun _ _ _ _ r h => by simp [cubitlaw09_LexScans.l1] at h⟩
  | k + 1 => by
    obtain ⟨ih0, ih1, ih2⟩ := cubitlaw09_LexScans.mono_l k
    refine ⟨?_, ?_, ?_⟩
    · intro y0 y1 y2 y3
      unfold cubitlaw09_LexScans.j0
      repeat' first
      | (with_reducible exact ih0 _ _ _ _)
      | (with_reducible exact ih1 _ _ _ _)
      | (with_reducible exact ih2 _ _ _ _)
      | (with_reducible exact cubitlaw09_awake.mono _)
      | (with_reducible exact cubitlaw09_same.mono _ _ _)
      | (with_reducible exact cubitref09_Scan.mono _ _)
      | (with_reducible exact lex_Scan.mono _ _)
      | (with_reducible exact LeO.refl _)
      | (with_reducible exact LeO.none _)
      | (with_reducible refine LeO.ite ?_ ?_)
      | (with_reducible refine LeO.bind ?_ (fun _ => ?_))
      | exact ih0 _ _ _ _
      | exact ih1 _ _ _ _
      | exact ih2 _ _ _ _
      | exact cubitlaw09_awake.mono _
      | exact cubitlaw09_same.mono _ _ _
      | exact cubitref09_Scan.mono _ _
      | exact lex_Scan.mono _ _
      | exact LeO.none _
      | refine LeO.ite ?_ ?_
      | refine LeO.bind ?_ (fun _ => ?_)
    · intro y0 y1 y2 y3
      unfold cubitlaw09_LexScans.l0
      repeat' first
      | (with_reducible exact ih0 _ _ _ _)
      | (with_reducible exact ih1 _ _ _ _)
      | (with_reducible exact ih2 _ _ _ _)
      | (with_reducible exact cubitlaw09_awake.mono _)
      | (with_reducible exact cubitlaw09_same.mono _ _ _)
      | (with_reducible exact cubitref09_Scan.mono _ _)
      | (with_reducible exact lex_Scan.mono _ _)
      | (with_reducible exact LeO.refl _)
      | (with_reducible exact LeO.none _)
      | (with_reducible refine LeO.ite ?_ ?_)
      | (with_reducible refine LeO.bind ?_ (fun _ => ?_))
      | exact ih0 _ _ _ _
      | exact ih1 _ _ _ _
      | exact ih2 _ _ _ _
      | exact cubitlaw09_awake.mono _
      | exact cubitlaw09_same.mono _ _ _
      | exact cubitref09_Scan.mono _ _
      | exact lex_Scan.mono _ _
      | exact LeO.none _
      | refine LeO.ite ?_ ?_
      | refine LeO.bind ?_ (fun _ => ?_)
    · intro y0 y1 y2 y3
      unfold cubitlaw09_LexScans.l1
      repeat' first
      | (with_reducible exact ih0 _ _ _ _)
      | (with_reducible exact ih1 _ _ _ _)
      | (with_reducible exact ih2 _ _ _ _)
      | (with_reducible exact cubitlaw09_awake.mono _)
      | (with_reducible exact cubitlaw09_same.mono _ _ _)
      | (with_reducible exact cubitref09_Scan.mono _ _)
      | (with_reducible exact lex_Scan.mono _ _)
      | (with_reducible exact LeO.refl _)
      | (with_reducible exact LeO.none _)
      | (with_reducible refine LeO.ite ?_ ?_)
      | (with_reducible refine LeO.bind ?_ (fun _ => ?_))
      | exact ih0 _ _ _ _
      | exact ih1 _ _ _ _
      | exact ih2 _ _ _ _
      | exact cubitlaw09_awake.mono _
      | exact cubitlaw09_same.mono _ _ _
      | exact cubitref09_Scan.mono _ _
      | exact lex_Scan.mono _ _
      | exact LeO.none _
      | refine LeO.ite ?_ ?_
      | refine LeO.bind ?_ (fun _ => ?_)
theorem cubitlaw09_LexScans.mono : ∀ a0 k, LeO (cubitlaw09_LexScans.f k a0) (cubitlaw09_LexScans.f (k + 1) a0) := by
  intro a0 k
  obtain ⟨ih0, ih1, ih2⟩ := cubitlaw09_LexScans.mono_l k
  unfold cubitlaw09_LexScans.f
  repeat' first
      | (with_reducible exact ih0 _ _ _ _)
      | (with_reducible exact ih1 _ _ _ _)
      | (with_reducible exact ih2 _ _ _ _)
      | (with_reducible exact cubitlaw09_awake.mono _)
      | (with_reducible exact cubitlaw09_same.mono _ _ _)
      | (with_reducible exact cubitref09_Scan.mono _ _)
      | (with_reducible exact lex_Scan.mono _ _)
      | (with_reducible exact LeO.refl _)
      | (with_reducible exact LeO.none _)
      | (with_reducible refine LeO.ite ?_ ?_)
      | (with_reducible refine LeO.bind ?_ (fun _ => ?_))
      | exact ih0 _ _ _ _
      | exact ih1 _ _ _ _
      | exact ih2 _ _ _ _
      | exact cubitlaw09_awake.mono _
      | exact cubitlaw09_same.mono _ _ _
      | exact cubitref09_Scan.mono _ _
      | exact lex_Scan.mono _ _
      | exact LeO.none _
      | refine LeO.ite ?_ ?_
      | refine LeO.bind ?_ (fun _ => ?_)
set_option maxHeartbeats 8000000 in
set_option maxRecDepth 100000 in
theorem cubitlaw09_LexScans.calls (k : Nat) (a0 : ByteArray) (r : Bool) (w : World) (h : cubitlaw09_LexScans.f k a0 = some r) (htrue : r = true) :
    Calls Try.prog 3 #[.string a0] w fun e w' => e = .returned (.bool r) ∧ Below w.heap.size w w' := by
  have hu31 := Try.underlying31
  have HB := Aside0.mk (Below.refl w.heap.size w)
  have HTRUE := Aside0.mk htrue
  clear htrue
  have H : ((cubitlaw09_awake.f k).bind fun t163 => (if t163 = true then ((cubitref09_Scan.f k a0).bind fun bt164 => ((lex_Scan.f k a0).bind fun bt169 => ((lex_Scan.f k a0).bind fun bt174 => ((cubitlaw09_same.f k bt169.1 bt164.1).bind fun t179 => (if t179 = true then (if bt169.2.1 = bt164.2.1 then (if bt169.2.2 = bt164.2.2 then ((cubitlaw09_same.f k bt174.1 bt164.1).bind fun t180 => (cubitlaw09_LexScans.j0 k bt164.1 bt169.1 bt174.1 (!t180))) else (cubitlaw09_LexScans.j0 k bt164.1 bt169.1 bt174.1 true)) else (cubitlaw09_LexScans.j0 k bt164.1 bt169.1 bt174.1 true)) else (cubitlaw09_LexScans.j0 k bt164.1 bt169.1 bt174.1 true)))))) else (some false))) = some r := h
  clear h
  replace H := Option.bind_eq_some_iff.mp H
  obtain ⟨t163, A20, H⟩ := H
  replace H : (if t163 = true then ((cubitref09_Scan.f k a0).bind fun bt164 => ((lex_Scan.f k a0).bind fun bt169 => ((lex_Scan.f k a0).bind fun bt174 => ((cubitlaw09_same.f k bt169.1 bt164.1).bind fun t179 => (if t179 = true then (if bt169.2.1 = bt164.2.1 then (if bt169.2.2 = bt164.2.2 then ((cubitlaw09_same.f k bt174.1 bt164.1).bind fun t180 => (cubitlaw09_LexScans.j0 k bt164.1 bt169.1 bt174.1 (!t180))) else (cubitlaw09_LexScans.j0 k bt164.1 bt169.1 bt174.1 true)) else (cubitlaw09_LexScans.j0 k bt164.1 bt169.1 bt174.1 true)) else (cubitlaw09_LexScans.j0 k bt164.1 bt169.1 bt174.1 true)))))) else (some false)) = some r := H
  have A2 := Aside0.mk A20
  clear A20
  by_cases c3 : t163 = true
  · subst c3
    have H1 : ((cubitref09_Scan.f k a0).bind fun bt164 => ((lex_Scan.f k a0).bind fun bt169 => ((lex_Scan.f k a0).bind fun bt174 => ((cubitlaw09_same.f k bt169.1 bt164.1).bind fun t179 => (if t179 = true then (if bt169.2.1 = bt164.2.1 then (if bt169.2.2 = bt164.2.2 then ((cubitlaw09_same.f k bt174.1 bt164.1).bind fun t180 => (cubitlaw09_LexScans.j0 k bt164.1 bt169.1 bt174.1 (!t180))) else (cubitlaw09_LexScans.j0 k bt164.1 bt169.1 bt174.1 true)) else (cubitlaw09_LexScans.j0 k bt164.1 bt169.1 bt174.1 true)) else (cubitlaw09_LexScans.j0 k bt164.1 bt169.1 bt174.1 true)))))) = some r := by rw [if_pos rfl] at H; exact H
    clear H
    have H := H1
    clear H1
    replace H := Option.bind_eq_some_iff.mp H
    obtain ⟨⟨t164, t165, t166⟩, A40, H⟩ := H
    replace H : ((lex_Scan.f k a0).bind fun bt169 => ((lex_Scan.f k a0).bind fun bt174 => ((cubitlaw09_same.f k bt169.1 t164).bind fun t179 => (if t179 = true then (if bt169.2.1 = t165 then (if bt169.2.2 = t166 then ((cubitlaw09_same.f k bt174.1 t164).bind fun t180 => (cubitlaw09_LexScans.j0 k t164 bt169.1 bt174.1 (!t180))) else (cubitlaw09_LexScans.j0 k t164 bt169.1 bt174.1 true)) else (cubitlaw09_LexScans.j0 k t164 bt169.1 bt174.1 true)) else (cubitlaw09_LexScans.j0 k t164 bt169.1 bt174.1 true))))) = some r := H
    have A4 := Aside0.mk A40
    clear A40
    replace H := Option.bind_eq_some_iff.mp H
    obtain ⟨⟨t169, t170, t171⟩, A50, H⟩ := H
    replace H : ((lex_Scan.f k a0).bind fun bt174 => ((cubitlaw09_same.f k t169 t164).bind fun t179 => (if t179 = true then (if t170 = t165 then (if t171 = t166 then ((cubitlaw09_same.f k bt174.1 t164).bind fun t180 => (cubitlaw09_LexScans.j0 k t164 t169 bt174.1 (!t180))) else (cubitlaw09_LexScans.j0 k t164 t169 bt174.1 true)) else (cubitlaw09_LexScans.j0 k t164 t169 bt174.1 true)) else (cubitlaw09_LexScans.j0 k t164 t169 bt174.1 true)))) = some r := H
    have A5 := Aside0.mk A50
    clear A50
    replace H := Option.bind_eq_some_iff.mp H
    obtain ⟨⟨t174, t175, t176⟩, A60, H⟩ := H
    replace H : ((cubitlaw09_same.f k t169 t164).bind fun t179 => (if t179 = true then (if t170 = t165 then (if t171 = t166 then ((cubitlaw09_same.f k t174 t164).bind fun t180 => (cubitlaw09_LexScans.j0 k t164 t169 t174 (!t180))) else (cubitlaw09_LexScans.j0 k t164 t169 t174 true)) else (cubitlaw09_LexScans.j0 k t164 t169 t174 true)) else (cubitlaw09_LexScans.j0 k t164 t169 t174 true))) = some r := H
    have A6 := Aside0.mk A60
    clear A60
    have HC7 := Aside0.mk H
    clear H
    go_enter Try.func3, Try.ntmps3
    go_upto_region 6 with (first | ((with_reducible refine gate_callee (f := 8) rfl ?_); refine goesL_ (some 14) rfl rfl Try.func8 (by kernel_rfl) rfl #[] rfl (by (try simp only [List.map_toArray, List.map_cons, List.map_nil]); first | done | rfl | (simp only [List.length_drop, List.length_take]; rfl)) ?_; (with_reducible refine (cubitlaw09_awake.calls k  true _ A2.out).mono ?_); rintro e w8 ⟨rfl, hb⟩; refine ⟨_, rfl, ?_⟩; have n0_ := Aside0.mk (below_step (by repeat (first | (with_reducible first | exact HB.out | apply below_alloc | apply pw_below_drewN | apply below_drew1) | exact HB.out)) hb); clear HB; have HB := n0_; clear n0_; (try clear hb); (try clear hb2); (try clear hk); (try clear hi)) | ((with_reducible refine gate_callee (f := 9) rfl ?_); refine goesL_ (some 18) rfl rfl Try.func9 (by kernel_rfl) rfl #[.string a0] rfl (by (try simp only [List.map_toArray, List.map_cons, List.map_nil]); first | done | rfl | (simp only [List.length_drop, List.length_take]; rfl)) ?_; (with_reducible refine (cubitref09_Scan.calls k a0 t164 t165 t166 _ A4.out).mono ?_); rintro e w9 ⟨v167, rfl, ho0, hb⟩; refine ⟨_, rfl, ?_⟩; have n0_ := Aside0.mk (Kd.R_lower ho0 (below_size (by repeat (first | (with_reducible first | exact HB.out | apply below_alloc | apply pw_below_drewN | apply below_drew1) | exact HB.out)))); have n1_ := Aside0.mk (below_step (by repeat (first | (with_reducible first | exact HB.out | apply below_alloc | apply pw_below_drewN | apply below_drew1) | exact HB.out)) hb); clear HB; have HO168 := n0_; have HB := n1_; clear n0_ n1_; (try clear hb); (try clear hb2); (try clear hk); (try clear hi); (try clear ho0)) | ((with_reducible refine gate_callee (f := 10) rfl ?_); refine goesL_ (some 24) rfl rfl Try.func10 (by kernel_rfl) rfl #[.string a0] rfl (by (try simp only [List.map_toArray, List.map_cons, List.map_nil]); first | done | rfl | (simp only [List.length_drop, List.length_take]; rfl)) ?_; (with_reducible refine (lex_Scan.calls k a0 t169 t170 t171 _ A5.out).mono ?_); rintro e w10 ⟨v172, rfl, ho0, hb⟩; refine ⟨_, rfl, ?_⟩; have n0_ := Aside0.mk (Kd.R_elder' (by (with_reducible repeat (first | apply Kd.R_alloc | apply Kd.R_drewN | apply Kd.R_drew)); exact HO168.out) (Kd.R_base ho0) hb); have n1_ := Aside0.mk (Kd.R_lower (Kd.R_new' ho0 (Kd.R_lt (by (with_reducible repeat (first | apply Kd.R_alloc | apply Kd.R_drewN | apply Kd.R_drew)); exact HO168.out))) (below_size (by repeat (first | (with_reducible first | exact HB.out | apply below_alloc | apply pw_below_drewN | apply below_drew1) | exact HB.out)))); have n2_ := Aside0.mk (below_step (by repeat (first | (with_reducible first | exact HB.out | apply below_alloc | apply pw_below_drewN | apply below_drew1) | exact HB.out)) hb); clear HO168; clear HB; have HO168 := n0_; have HO173 := n1_; have HB := n2_; clear n0_ n1_ n2_; (try clear hb); (try clear hb2); (try clear hk); (try clear hi); (try clear ho0)) | ((with_reducible refine gate_callee (f := 10) rfl ?_); refine goesL_ (some 30) rfl rfl Try.func10 (by kernel_rfl) rfl #[.string a0] rfl (by (try simp only [List.map_toArray, List.map_cons, List.map_nil]); first | done | rfl | (simp only [List.length_drop, List.length_take]; rfl)) ?_; (with_reducible refine (lex_Scan.calls k a0 t174 t175 t176 _ A6.out).mono ?_); rintro e w11 ⟨v177, rfl, ho0, hb⟩; refine ⟨_, rfl, ?_⟩; have n0_ := Aside0.mk (Kd.R_elder' (by (with_reducible repeat (first | apply Kd.R_alloc | apply Kd.R_drewN | apply Kd.R_drew)); exact HO168.out) (Kd.R_base ho0) hb); have n1_ := Aside0.mk (Kd.R_elder' (by (with_reducible repeat (first | apply Kd.R_alloc | apply Kd.R_drewN | apply Kd.R_drew)); exact HO173.out) (Kd.R_base ho0) hb); have n2_ := Aside0.mk (Kd.R_lower (Kd.R_new' (Kd.R_new' ho0 (Kd.R_lt (by (with_reducible repeat (first | apply Kd.R_alloc | apply Kd.R_drewN | apply Kd.R_drew)); exact HO168.out))) (Kd.R_lt (by (with_reducible repeat (first | apply Kd.R_alloc | apply Kd.R_drewN | apply Kd.R_drew)); exact HO173.out))) (below_size (by repeat (first | (with_reducible first | exact HB.out | apply below_alloc | apply pw_below_drewN | apply below_drew1) | exact HB.out)))); have n3_ := Aside0.mk (below_step (by repeat (first | (with_reducible first | exact HB.out | apply below_alloc | apply pw_below_drewN | apply below_drew1) | exact HB.out)) hb); clear HO168; clear HO173; clear HB; have HO168 := n0_; have HO173 := n1_; have HO178 := n2_; have HB := n3_; clear n0_ n1_ n2_ n3_; (try clear hb); (try clear hb2); (try clear hk); (try clear hi); (try clear ho0)))
    (try simp only [Act.put, List.setIfInBounds_toArray, List.set_cons_zero, List.set_cons_succ])
    go_cut [53] (fun v53 wc => ∃ (kq : Nat) (x53_6 : Bool), v53 = .bool x53_6 ∧ Aside0 (cubitlaw09_LexScans.j0 kq t164 t169 t174 x53_6 = some r) ∧ Aside0 (kq ≤ k) ∧ Aside0 (Kd.R k31 31 wc w.heap.size (fun k_ => some k_ ≠ (v172 : Value).ownBlock ∧ some k_ ≠ (v177 : Value).ownBlock) v167 t164) ∧ Aside0 (Kd.R k31 31 wc w.heap.size (fun k_ => some k_ ≠ (v167 : Value).ownBlock ∧ some k_ ≠ (v177 : Value).ownBlock) v172 t169) ∧ Aside0 (Kd.R k31 31 wc w.heap.size (fun k_ => some k_ ≠ (v167 : Value).ownBlock ∧ some k_ ≠ (v172 : Value).ownBlock) v177 t174) ∧ Aside0 (Below w.heap.size w wc))
    case first =>
      have H := HC7.out
      clear HC7
      replace H := Option.bind_eq_some_iff.mp H
      obtain ⟨t179, A120, H⟩ := H
      replace H : (if t179 = true then (if t170 = t165 then (if t171 = t166 then ((cubitlaw09_same.f k t174 t164).bind fun t180 => (cubitlaw09_LexScans.j0 k t164 t169 t174 (!t180))) else (cubitlaw09_LexScans.j0 k t164 t169 t174 true)) else (cubitlaw09_LexScans.j0 k t164 t169 t174 true)) else (cubitlaw09_LexScans.j0 k t164 t169 t174 true)) = some r := H
      have A12 := Aside0.mk A120
      clear A120
      by_cases c13 : t179 = true
      · subst c13
        have H1 : (if t170 = t165 then (if t171 = t166 then ((cubitlaw09_same.f k t174 t164).bind fun t180 => (cubitlaw09_LexScans.j0 k t164 t169 t174 (!t180))) else (cubitlaw09_LexScans.j0 k t164 t169 t174 true)) else (cubitlaw09_LexScans.j0 k t164 t169 t174 true)) = some r := by rw [if_pos rfl] at H; exact H
        clear H
        have H := H1
        clear H1
        by_cases c14 : t170 = t165
        · rw [if_pos c14] at H
          have c14b0 : (t170 == t165) = true := beq_iff_eq.mpr c14
          have c14b1 : (t170 != t165) = false := bne_eq_false_iff_eq.mpr c14
          clear c14
          (first | rw [c14b0] | (simp only [i64_w, i32_w]; rw [c14b0]) | skip)
          by_cases c15 : t171 = t166
          · rw [if_pos c15] at H
            have c15b0 : (t171 == t166) = true := beq_iff_eq.mpr c15
            have c15b1 : (t171 != t166) = false := bne_eq_false_iff_eq.mpr c15
            clear c15
            replace H := Option.bind_eq_some_iff.mp H
            obtain ⟨t180, A160, H⟩ := H
            replace H : (cubitlaw09_LexScans.j0 k t164 t169 t174 (!t180)) = some r := H
            have A16 := Aside0.mk A160
            clear A160
            have H' := Aside0.mk H
            clear H
            obtain ⟨Ao17, co17, eo17⟩ := Kd.R_slice HO173.out
            subst eo17
            obtain ⟨Ao18, co18, eo18⟩ := Kd.R_slice HO168.out
            subst eo18
            go_wp2_with (first | ((with_reducible refine gate_callee (f := 11) rfl ?_); refine goesL_ (some 36) rfl rfl Try.func11 (by kernel_rfl) rfl #[.slice Ao17 t169.length co17, .slice Ao18 t164.length co18] rfl (by (try simp only [List.map_toArray, List.map_cons, List.map_nil]); first | done | rfl | (simp only [List.length_drop, List.length_take]; rfl)) ?_; (with_reducible refine (cubitlaw09_same.calls k _ _ t169 _ _ t164 true _ ?side1 ?side2 ?side3 ?side4 A12.out).mono ?_); (case side1 => repeat (first | exact (Kd.R_reads' HO173.out).2.2 | (with_reducible refine Kd.C_alloc ?_ _) | (with_reducible refine Kd.C_drewN ?_ _) | (with_reducible refine Kd.C_drew ?_))); (case side2 => exact (Kd.R_reads' HO173.out).2.1); (case side3 => repeat (first | exact (Kd.R_reads' HO168.out).2.2 | (with_reducible refine Kd.C_alloc ?_ _) | (with_reducible refine Kd.C_drewN ?_ _) | (with_reducible refine Kd.C_drew ?_))); (case side4 => exact (Kd.R_reads' HO168.out).2.1); rintro e w' ⟨rfl, ⟨nd, rfl⟩⟩; refine ⟨_, rfl, ?_⟩; obtain ⟨Ao19, co19, eo19⟩ := Kd.R_slice HO178.out; subst eo19) | (go_at_call 11; (with_reducible refine (cubitlaw09_same.calls k _ _ t174 _ _ t164 t180 _ ?side1 ?side2 ?side3 ?side4 A16.out).mono ?_); (case side1 => repeat (first | exact (Kd.R_reads' HO178.out).2.2 | (with_reducible refine Kd.C_alloc ?_ _) | (with_reducible refine Kd.C_drewN ?_ _) | (with_reducible refine Kd.C_drew ?_))); (case side2 => exact (Kd.R_reads' HO178.out).2.1); (case side3 => repeat (first | exact (Kd.R_reads' HO168.out).2.2 | (with_reducible refine Kd.C_alloc ?_ _) | (with_reducible refine Kd.C_drewN ?_ _) | (with_reducible refine Kd.C_drew ?_))); (case side4 => exact (Kd.R_reads' HO168.out).2.1); rintro e w' ⟨rfl, ⟨nd, rfl⟩⟩))
            go_meet
            case rel => exact ⟨_, (!t180), (by first | rfl | (simp; done) | (simp [*]; done)), H', ⟨by first | omega | exact Nat.le_refl _⟩, ⟨by (with_reducible repeat (first | apply Kd.R_alloc | apply Kd.R_drewN | apply Kd.R_drew)); exact Kd.R_mono HO168.out (fun _ hk => ⟨hk.1.2, hk.2⟩)⟩, ⟨by (with_reducible repeat (first | apply Kd.R_alloc | apply Kd.R_drewN | apply Kd.R_drew)); exact Kd.R_mono HO173.out (fun _ hk => ⟨hk.1.2, hk.2⟩)⟩, ⟨by (with_reducible repeat (first | apply Kd.R_alloc | apply Kd.R_drewN | apply Kd.R_drew)); exact Kd.R_mono HO178.out (fun _ hk => ⟨hk.1.2, hk.2⟩)⟩, ⟨by repeat (first | (with_reducible first | exact HB.out | apply below_alloc | apply pw_below_drewN | apply below_drew1) | exact HB.out)⟩⟩
          · rw [if_neg c15] at H
            have c15b0 : (t171 == t166) = false := beq_eq_false_iff_ne.mpr c15
            have c15b1 : (t171 != t166) = true := bne_iff_ne.mpr c15
            have H' := Aside0.mk H
            clear H
            obtain ⟨Ao20, co20, eo20⟩ := Kd.R_slice HO173.out
            subst eo20
            obtain ⟨Ao21, co21, eo21⟩ := Kd.R_slice HO168.out
            subst eo21
            go_wp2_with (first | ((with_reducible refine gate_callee (f := 11) rfl ?_); refine goesL_ (some 36) rfl rfl Try.func11 (by kernel_rfl) rfl #[.slice Ao20 t169.length co20, .slice Ao21 t164.length co21] rfl (by (try simp only [List.map_toArray, List.map_cons, List.map_nil]); first | done | rfl | (simp only [List.length_drop, List.length_take]; rfl)) ?_; (with_reducible refine (cubitlaw09_same.calls k _ _ t169 _ _ t164 true _ ?side1 ?side2 ?side3 ?side4 A12.out).mono ?_); (case side1 => repeat (first | exact (Kd.R_reads' HO173.out).2.2 | (with_reducible refine Kd.C_alloc ?_ _) | (with_reducible refine Kd.C_drewN ?_ _) | (with_reducible refine Kd.C_drew ?_))); (case side2 => exact (Kd.R_reads' HO173.out).2.1); (case side3 => repeat (first | exact (Kd.R_reads' HO168.out).2.2 | (with_reducible refine Kd.C_alloc ?_ _) | (with_reducible refine Kd.C_drewN ?_ _) | (with_reducible refine Kd.C_drew ?_))); (case side4 => exact (Kd.R_reads' HO168.out).2.1); rintro e w' ⟨rfl, ⟨nd, rfl⟩⟩; refine ⟨_, rfl, ?_⟩))
            go_meet
            case rel => exact ⟨_, (true), (by first | rfl | (simp; done) | (simp [*]; done)), H', ⟨by first | omega | exact Nat.le_refl _⟩, ⟨by (with_reducible repeat (first | apply Kd.R_alloc | apply Kd.R_drewN | apply Kd.R_drew)); exact Kd.R_mono HO168.out (fun _ hk => ⟨hk.1.2, hk.2⟩)⟩, ⟨by (with_reducible repeat (first | apply Kd.R_alloc | apply Kd.R_drewN | apply Kd.R_drew)); exact Kd.R_mono HO173.out (fun _ hk => ⟨hk.1.2, hk.2⟩)⟩, ⟨by (with_reducible repeat (first | apply Kd.R_alloc | apply Kd.R_drewN | apply Kd.R_drew)); exact Kd.R_mono HO178.out (fun _ hk => ⟨hk.1.2, hk.2⟩)⟩, ⟨by repeat (first | (with_reducible first | exact HB.out | apply below_alloc | apply pw_below_drewN | apply below_drew1) | exact HB.out)⟩⟩
        · rw [if_neg c14] at H
          have c14b0 : (t170 == t165) = false := beq_eq_false_iff_ne.mpr c14
          have c14b1 : (t170 != t165) = true := bne_iff_ne.mpr c14
          (first | rw [c14b0] | (simp only [i64_w, i32_w]; rw [c14b0]) | skip)
          have H' := Aside0.mk H
          clear H
          obtain ⟨Ao22, co22, eo22⟩ := Kd.R_slice HO173.out
          subst eo22
          obtain ⟨Ao23, co23, eo23⟩ := Kd.R_slice HO168.out
          subst eo23
          go_wp2_with (first | ((with_reducible refine gate_callee (f := 11) rfl ?_); refine goesL_ (some 36) rfl rfl Try.func11 (by kernel_rfl) rfl #[.slice Ao22 t169.length co22, .slice Ao23 t164.length co23] rfl (by (try simp only [List.map_toArray, List.map_cons, List.map_nil]); first | done | rfl | (simp only [List.length_drop, List.length_take]; rfl)) ?_; (with_reducible refine (cubitlaw09_same.calls k _ _ t169 _ _ t164 true _ ?side1 ?side2 ?side3 ?side4 A12.out).mono ?_); (case side1 => repeat (first | exact (Kd.R_reads' HO173.out).2.2 | (with_reducible refine Kd.C_alloc ?_ _) | (with_reducible refine Kd.C_drewN ?_ _) | (with_reducible refine Kd.C_drew ?_))); (case side2 => exact (Kd.R_reads' HO173.out).2.1); (case side3 => repeat (first | exact (Kd.R_reads' HO168.out).2.2 | (with_reducible refine Kd.C_alloc ?_ _) | (with_reducible refine Kd.C_drewN ?_ _) | (with_reducible refine Kd.C_drew ?_))); (case side4 => exact (Kd.R_reads' HO168.out).2.1); rintro e w' ⟨rfl, ⟨nd, rfl⟩⟩; refine ⟨_, rfl, ?_⟩))
          go_meet
          case rel => exact ⟨_, (true), (by first | rfl | (simp; done) | (simp [*]; done)), H', ⟨by first | omega | exact Nat.le_refl _⟩, ⟨by (with_reducible repeat (first | apply Kd.R_alloc | apply Kd.R_drewN | apply Kd.R_drew)); exact Kd.R_mono HO168.out (fun _ hk => ⟨hk.1.2, hk.2⟩)⟩, ⟨by (with_reducible repeat (first | apply Kd.R_alloc | apply Kd.R_drewN | apply Kd.R_drew)); exact Kd.R_mono HO173.out (fun _ hk => ⟨hk.1.2, hk.2⟩)⟩, ⟨by (with_reducible repeat (first | apply Kd.R_alloc | apply Kd.R_drewN | apply Kd.R_drew)); exact Kd.R_mono HO178.out (fun _ hk => ⟨hk.1.2, hk.2⟩)⟩, ⟨by repeat (first | (with_reducible first | exact HB.out | apply below_alloc | apply pw_below_drewN | apply below_drew1) | exact HB.out)⟩⟩
      · replace c13 := Bool.eq_false_iff.mpr c13
        subst c13
        have H1 : (cubitlaw09_LexScans.j0 k t164 t169 t174 true) = some r := by rw [if_neg (show ¬ (false = true) by decide)] at H; exact H
        clear H
        have H := H1
        clear H1
        have H' := Aside0.mk H
        clear H
        obtain ⟨Ao24, co24, eo24⟩ := Kd.R_slice HO173.out
        subst eo24
        obtain ⟨Ao25, co25, eo25⟩ := Kd.R_slice HO168.out
        subst eo25
        go_wp2_with (first | ((with_reducible refine gate_callee (f := 11) rfl ?_); refine goesL_ (some 36) rfl rfl Try.func11 (by kernel_rfl) rfl #[.slice Ao24 t169.length co24, .slice Ao25 t164.length co25] rfl (by (try simp only [List.map_toArray, List.map_cons, List.map_nil]); first | done | rfl | (simp only [List.length_drop, List.length_take]; rfl)) ?_; (with_reducible refine (cubitlaw09_same.calls k _ _ t169 _ _ t164 false _ ?side1 ?side2 ?side3 ?side4 A12.out).mono ?_); (case side1 => repeat (first | exact (Kd.R_reads' HO173.out).2.2 | (with_reducible refine Kd.C_alloc ?_ _) | (with_reducible refine Kd.C_drewN ?_ _) | (with_reducible refine Kd.C_drew ?_))); (case side2 => exact (Kd.R_reads' HO173.out).2.1); (case side3 => repeat (first | exact (Kd.R_reads' HO168.out).2.2 | (with_reducible refine Kd.C_alloc ?_ _) | (with_reducible refine Kd.C_drewN ?_ _) | (with_reducible refine Kd.C_drew ?_))); (case side4 => exact (Kd.R_reads' HO168.out).2.1); rintro e w' ⟨rfl, ⟨nd, rfl⟩⟩; refine ⟨_, rfl, ?_⟩))
        go_meet
        case rel => exact ⟨_, (true), (by first | rfl | (simp; done) | (simp [*]; done)), H', ⟨by first | omega | exact Nat.le_refl _⟩, ⟨by (with_reducible repeat (first | apply Kd.R_alloc | apply Kd.R_drewN | apply Kd.R_drew)); exact Kd.R_mono HO168.out (fun _ hk => ⟨hk.1.2, hk.2⟩)⟩, ⟨by (with_reducible repeat (first | apply Kd.R_alloc | apply Kd.R_drewN | apply Kd.R_drew)); exact Kd.R_mono HO173.out (fun _ hk => ⟨hk.1.2, hk.2⟩)⟩, ⟨by (with_reducible repeat (first | apply Kd.R_alloc | apply Kd.R_drewN | apply Kd.R_drew)); exact Kd.R_mono HO178.out (fun _ hk => ⟨hk.1.2, hk.2⟩)⟩, ⟨by repeat (first | (with_reducible first | exact HB.out | apply below_alloc | apply pw_below_drewN | apply below_drew1) | exact HB.out)⟩⟩
    case rest =>
      clear HC7
      try clear c1
      try clear p2
      try clear c3
      try clear c8
      try clear c9
      try clear c10
      try clear c11
      try clear c13
      try clear c14
      try clear c14b0
      try clear c14b1
      try clear c15
      try clear c15b0
      try clear c15b1
      obtain ⟨kq, x53_6, rfl, HA, HJ6, HO_3, HO_6, HO_9, HB⟩ := hcut
      cases kq with
      | zero => exact absurd HA.out (by simp [cubitlaw09_LexScans.j0])
      | succ kj6 =>
        have H := HA.out
        clear HA
        simp only [cubitlaw09_LexScans.j0] at H
        by_cases c26 : x53_6 = true
        · subst c26
          have H1 : (some false) = some r := by rw [if_pos rfl] at H; exact H
          clear H
          have H := H1
          clear H1
          exact absurd (HTRUE.out.symm.trans (Option.some.inj H).symm) (by decide)
        · replace c26 := Bool.eq_false_iff.mpr c26
          subst c26
          have H1 : (cubitlaw09_LexScans.l0 kj6 t164 t169 t174 0) = some r := by rw [if_neg (show ¬ (false = true) by decide)] at H; exact H
          clear H
          have H := H1
          clear H1
          have H' := Aside0.mk H
          clear H
          go_wp2
          go_loopg [12] kj6 (fun kq v12 w' => ∃ (x6_2 : List (S31)) (x12_2 : Int), v12 = .int .i64 x12_2 ∧ Aside0 (cubitlaw09_LexScans.l0 kq t164 x6_2 t174 x12_2 = some r) ∧ Aside0 (kq ≤ kj6) ∧ Aside0 (Kd.R k31 31 w' w.heap.size (fun k_ => some k_ ≠ (v172 : Value).ownBlock ∧ some k_ ≠ (v177 : Value).ownBlock) v167 t164) ∧ Aside0 (Kd.R k31 31 w' w.heap.size (fun k_ => some k_ ≠ (v167 : Value).ownBlock ∧ some k_ ≠ (v177 : Value).ownBlock) v172 x6_2) ∧ Aside0 (Kd.R k31 31 w' w.heap.size (fun k_ => some k_ ≠ (v167 : Value).ownBlock ∧ some k_ ≠ (v172 : Value).ownBlock) v177 t174) ∧ Aside0 (Below w.heap.size w w'))
          case atStart => exact ⟨(t169), (0), (by first | rfl | (simp; done) | (simp [*]; done)), H', ⟨Nat.le_refl _⟩, ⟨by (with_reducible repeat (first | apply Kd.R_alloc | apply Kd.R_drewN | apply Kd.R_drew)); exact HO_3.out⟩, ⟨by (with_reducible repeat (first | apply Kd.R_alloc | apply Kd.R_drewN | apply Kd.R_drew)); exact HO_6.out⟩, ⟨by (with_reducible repeat (first | apply Kd.R_alloc | apply Kd.R_drewN | apply Kd.R_drew)); exact HO_9.out⟩, ⟨by repeat (first | (with_reducible first | exact HB.out | apply below_alloc | apply pw_below_drewN | apply below_drew1) | exact HB.out)⟩⟩
          case round =>
            clear H'
            try clear c1
            try clear c2
            try clear p2
            try clear c3
            try clear c8
            try clear c9
            try clear c10
            try clear c11
            try clear c13
            try clear c14
            try clear c14b0
            try clear c14b1
            try clear c15
            try clear c15b0
            try clear c15b1
            try clear c26
            try clear p2
            obtain ⟨x6_2, x12_2, rfl, HA, HK2, HO_3, HO_6, HO_9, HB⟩ := hrel
            cases gk with
            | zero => exact absurd HA.out (by simp [cubitlaw09_LexScans.l0])
            | succ k2 =>
              have H := HA.out
              clear HA
              simp only [cubitlaw09_LexScans.l0] at H
              by_cases c27 : x12_2 < (x6_2.length : Int)
              · rw [if_pos c27] at H
                have c27b0 : decide (x12_2 < (x6_2.length : Int)) = true := decide_eq_true c27
                clear c27
                by_cases c28 : 0 ≤ x12_2
                · rw [if_pos c28] at H
                  have c28b0 : decide (0 ≤ x12_2) = true := decide_eq_true c28
                  clear c28
                  obtain ⟨y181, hy181⟩ : ∃ y_ : List (S31), y_ = (x6_2.set (x12_2 : Int).toNat (⟨0, (⟨#[]⟩ : ByteArray), 0⟩ : S31)) := ⟨_, rfl⟩
                  replace H : (cubitlaw09_LexScans.l0 k2 t164 y181 t174 (wrap64 (x12_2 + 1))) = some r := by first | (rw [hy181]; with_reducible exact H) | (have H2_ := (Option.bind_some _ _).symm.trans H; rw [hy181]; with_reducible exact H2_) | (have H2_ := (Option.bind_some _ _).symm.trans H; with_reducible exact H2_) | with_reducible exact H | (rw [hy181]; exact H) | exact H
                  have Ny181 := Aside0.mk hy181
                  clear hy181
                  have H' := Aside0.mk H
                  clear H
                  obtain ⟨Ao30, co30, eo30⟩ := Kd.R_slice HO_6.out
                  subst eo30
                  have p29 : 0 ≤ (x12_2 : Int) := of_decide_eq_true (by first | (with_reducible assumption) | assumption)
                  have q29 : (x12_2 : Int) < ((x6_2.length : Int) : Int) := of_decide_eq_true (by first | (with_reducible assumption) | assumption)
                  obtain ⟨go29, co29, eo29, gb29, gl29, cl29, HG29⟩ := Kd.R_form HO_6.out (by omega)
                  (first | cases eo29 | (injection eo29 with ea_ en_ ec_; (first | subst ea_ | (injection ea_ with ea_; subst ea_)); subst ec_; clear en_))
                  have GB29 := Aside0.mk gb29
                  have GG29 := Aside0.mk HG29
                  clear gb29 gl29 HG29
                  obtain ⟨ce29, hcl29, hM29, hcc29, hfr29⟩ := Kd.R_elem HO_6.out z31 (x12_2 : Int) p29 q29
                  obtain rfl := k31_openM hM29
                  have hx29_0 : wr.cell? ⟨go29, (x12_2 : Int).toNat * 3, none⟩ = some (.int .i64 ((rd_T31 x6_2 x12_2).f0)) := hcc29 0 _ rfl
                  have hx29_1 : wr.cell? ⟨go29, (x12_2 : Int).toNat * 3 + 1, none⟩ = some (.string ((rd_T31 x6_2 x12_2).f1)) := hcc29 1 _ rfl
                  have hx29_2 : wr.cell? ⟨go29, (x12_2 : Int).toNat * 3 + 2, none⟩ = some (.int .i64 ((rd_T31 x6_2 x12_2).f2)) := hcc29 2 _ rfl
                  have hf29_0 : wr.frozen? ⟨go29, (x12_2 : Int).toNat * 3, none⟩ = false := hfr29 0
                  have hf29_1 : wr.frozen? ⟨go29, (x12_2 : Int).toNat * 3 + 1, none⟩ = false := hfr29 1
                  have hf29_2 : wr.frozen? ⟨go29, (x12_2 : Int).toNat * 3 + 2, none⟩ = false := hfr29 2
                  clear hcl29 hcc29 hfr29 hM29
                  replace p29 := eq_true p29
                  replace q29 := eq_true q29
                  have HX31 := Aside0.mk (show Kd.R k31 31 wr w.heap.size (fun k_ => some k_ ≠ (v167 : Value).ownBlock ∧ some k_ ≠ (v177 : Value).ownBlock) (.slice (some ⟨go29, 0, none⟩) x6_2.length co30) x6_2 from (by (with_reducible repeat (first | apply Kd.R_alloc | apply Kd.R_drewN | apply Kd.R_drew)); exact HO_6.out))
                  obtain ⟨ce31, hcl31, hM31, hcc31, hfr31⟩ := Kd.R_elem HX31.out z31 (x12_2 : Int) (of_decide_eq_true (by first | (with_reducible assumption) | assumption)) (by have h_ : (x12_2 : Int) < ((x6_2.length : Int) : Int) := of_decide_eq_true (by first | (with_reducible assumption) | assumption); first | exact h_ | (have e_ := (Kd.R_reads' HO_6.out).1; omega) | simpa using h_)
                  obtain rfl := k31_openM hM31
                  have HP31 := Kd.R_seg HX31.out (x12_2 : Int) (of_decide_eq_true (by first | (with_reducible assumption) | assumption)) (by have h_ : (x12_2 : Int) < ((x6_2.length : Int) : Int) := of_decide_eq_true (by first | (with_reducible assumption) | assumption); first | exact h_ | (have e_ := (Kd.R_reads' HO_6.out).1; omega) | simpa using h_) (seg := [.int .i64 0, .string (⟨#[]⟩ : ByteArray), .int .i64 0]) (j := 0) hcl31 hcc31 (show 3 ≤ 3 from by decide) (x' := (⟨0, (⟨#[]⟩ : ByteArray), 0⟩ : S31)) (k31_mkM _ _ _ (⟨0, (⟨#[]⟩ : ByteArray), 0⟩ : S31) ) (fun _ hk => hk)
                  have hx31_0 := hcc31 0 _ rfl
                  (try simp only [show (k31).sz = 3 from rfl, Nat.mul_one, Nat.add_zero] at hx31_0)
                  have hf31_0 := hfr31 0
                  (try simp only [show (k31).sz = 3 from rfl, Nat.mul_one, Nat.add_zero] at hf31_0)
                  have hx31_1 := hcc31 1 _ rfl
                  (try simp only [show (k31).sz = 3 from rfl, Nat.mul_one, Nat.add_zero] at hx31_1)
                  have hf31_1 := hfr31 1
                  (try simp only [show (k31).sz = 3 from rfl, Nat.mul_one, Nat.add_zero] at hf31_1)
                  have hx31_2 := hcc31 2 _ rfl
                  (try simp only [show (k31).sz = 3 from rfl, Nat.mul_one, Nat.add_zero] at hx31_2)
                  have hf31_2 := hfr31 2
                  (try simp only [show (k31).sz = 3 from rfl, Nat.mul_one, Nat.add_zero] at hf31_2)
                  clear hcl31 hcc31 hfr31 hM31
                  go_wp2_with (first | ((with_reducible refine gate_store (t := 31) (p := 63) rfl ?_); refine store_event (t := 31) (p := 63) (v := ?vo_w32) (w1 := (((wr.setCell ⟨go29, (x12_2 : Int).toNat * 3, none⟩ (.int .i64 0)).setCell ⟨go29, (x12_2 : Int).toNat * 3 + 1, none⟩ (.string (⟨#[]⟩ : ByteArray))).setCell ⟨go29, (x12_2 : Int).toNat * 3 + 2, none⟩ (.int .i64 0))) ?hg ?ho ?hn ?hr ?_; (case ho => rfl); (case hg => rfl); (case hn => rfl); (case hr => first | (go_simp; done) | (go_simp; rfl)); intro w32 hw; have hg : wr.grownBy w32 (some go29) := (by rw [hw]; exact HP31.2); have hp_ : Kd.R k31 31 w32 w.heap.size (fun k_ => some k_ ≠ (v167 : Value).ownBlock ∧ some k_ ≠ (v177 : Value).ownBlock) (.slice (some ⟨go29, 0, none⟩) x6_2.length co30) y181 := (by rw [hw, Ny181.out]; exact HP31.1); clear HP31; have n0_ := Aside0.mk (Kd.R_after (v := (.slice (some ⟨go29, 0, none⟩) x6_2.length co30)) (v1 := (.slice (some ⟨go29, 0, none⟩) x6_2.length co30)) (ok := (fun k_ => some k_ ≠ (v177 : Value).ownBlock)) (by (with_reducible repeat (first | apply Kd.R_alloc | apply Kd.R_drewN | apply Kd.R_drew)); exact Kd.R_mono HO_3.out (fun _ hk => ⟨hk.2, hk.1⟩)) hg (.inl rfl)); have n1_ := Aside0.mk (hp_); have n2_ := Aside0.mk (Kd.R_after (v := (.slice (some ⟨go29, 0, none⟩) x6_2.length co30)) (v1 := (.slice (some ⟨go29, 0, none⟩) x6_2.length co30)) (ok := (fun k_ => some k_ ≠ (v167 : Value).ownBlock)) (by (with_reducible repeat (first | apply Kd.R_alloc | apply Kd.R_drewN | apply Kd.R_drew)); exact HO_9.out) hg (.inl rfl)); have n3_ := Aside0.mk ((by rw [hw]; exact below_set (below_set (below_set (HB.out) GB29.out) GB29.out) GB29.out : Below w.heap.size w w32)); clear HO_3; clear HO_6; clear HO_9; clear HB; have HO_3 := n0_; have HO_6 := n1_; have HO_9 := n2_; have HB := n3_; clear n0_ n1_ n2_ n3_; clear hg hw hp_))
                  go_roundg k2
                  case measure => have := HJ6.out; have := HK2.out; omega
                  case rel => exact ⟨(y181), (wrap64 (x12_2 + 1)), (by first | rfl | (simp; done) | (simp [*]; done)), H', ⟨by have := HJ6.out; have := HK2.out; omega⟩, ⟨by (with_reducible repeat (first | apply Kd.R_alloc | apply Kd.R_drewN | apply Kd.R_drew)); exact Kd.R_mono HO_3.out (fun _ hk => ⟨hk.2, hk.1⟩)⟩, ⟨by (with_reducible repeat (first | apply Kd.R_alloc | apply Kd.R_drewN | apply Kd.R_drew)); exact HO_6.out⟩, ⟨by (with_reducible repeat (first | apply Kd.R_alloc | apply Kd.R_drewN | apply Kd.R_drew)); exact HO_9.out⟩, ⟨by repeat (first | (with_reducible first | exact HB.out | apply below_alloc | apply pw_below_drewN | apply below_drew1) | exact HB.out)⟩⟩
                · rw [if_neg c28] at H
                  exact absurd H (by simp)
              · rw [if_neg c27] at H
                have c27b0 : decide (x12_2 < (x6_2.length : Int)) = false := decide_eq_false c27
                clear c27
                have H' := Aside0.mk H
                clear H
                obtain ⟨Ao33, co33, eo33⟩ := Kd.R_slice HO_6.out
                subst eo33
                go_wp2
                go_loopg [6, 13] k2 (fun kq v6 v13 w' => ∃ (x6_3 : List (S31)) (x13_3 : Int), v13 = .int .i64 x13_3 ∧ Aside0 (cubitlaw09_LexScans.l1 kq t164 x6_3 t174 x13_3 = some r) ∧ Aside0 (kq ≤ k2) ∧ Aside0 (Kd.R k31 31 w' w.heap.size (fun k_ => some k_ ≠ (v6 : Value).ownBlock ∧ some k_ ≠ (v177 : Value).ownBlock) v167 t164) ∧ Aside0 (Kd.R k31 31 w' w.heap.size (fun k_ => some k_ ≠ (v167 : Value).ownBlock ∧ some k_ ≠ (v177 : Value).ownBlock) v6 x6_3) ∧ Aside0 (Kd.R k31 31 w' w.heap.size (fun k_ => some k_ ≠ (v167 : Value).ownBlock ∧ some k_ ≠ (v6 : Value).ownBlock) v177 t174) ∧ Aside0 (Below w.heap.size w w'))
                case atStart => exact ⟨(x6_2), (0), (by first | rfl | (simp; done) | (simp [*]; done)), H', ⟨Nat.le_refl _⟩, ⟨by (with_reducible repeat (first | apply Kd.R_alloc | apply Kd.R_drewN | apply Kd.R_drew)); exact HO_3.out⟩, ⟨by (with_reducible repeat (first | apply Kd.R_alloc | apply Kd.R_drewN | apply Kd.R_drew)); exact HO_6.out⟩, ⟨by (with_reducible repeat (first | apply Kd.R_alloc | apply Kd.R_drewN | apply Kd.R_drew)); exact HO_9.out⟩, ⟨by repeat (first | (with_reducible first | exact HB.out | apply below_alloc | apply pw_below_drewN | apply below_drew1) | exact HB.out)⟩⟩
                case round =>
                  clear H'
                  try clear c1
                  try clear c2
                  try clear p2
                  try clear q2
                  try clear hx2
                  try clear hf2
                  try clear c3
                  try clear hx3
                  try clear hf3
                  try clear p6
                  try clear c8
                  try clear c9
                  try clear c10
                  try clear c11
                  try clear c13
                  try clear c14
                  try clear c14b0
                  try clear c14b1
                  try clear c15
                  try clear c15b0
                  try clear c15b1
                  try clear c26
                  try clear c27
                  try clear c27b0
                  try clear c28
                  try clear c28b0
                  try clear c29
                  try clear p29
                  try clear q29
                  try clear hx29
                  try clear hf29
                  try clear c31
                  try clear hx31
                  try clear hf31
                  try clear hx29_0
                  try clear hx29_1
                  try clear hx29_2
                  try clear hx31_0
                  try clear hx31_1
                  try clear hx31_2
                  try clear p2
                  try clear p29
                  try clear q29
                  obtain ⟨x6_3, x13_3, rfl, HA, HK3, HO_3, HO_6, HO_9, HB⟩ := hrel
                  cases gk with
                  | zero => exact absurd HA.out (by simp [cubitlaw09_LexScans.l1])
                  | succ k3 =>
                    have H := HA.out
                    clear HA
                    simp only [cubitlaw09_LexScans.l1] at H
                    by_cases c34 : x13_3 < 20
                    · rw [if_pos c34] at H
                      have c34b0 : decide (x13_3 < 20) = true := decide_eq_true c34
                      clear c34
                      by_cases c35 : x6_3.length < 4398046511104
                      · rw [if_pos c35] at H
                        have LMc35 := Aside0.mk c35
                        clear c35
                        obtain ⟨y182, hy182⟩ : ∃ y_ : List (S31), y_ = (x6_3 ++ [(⟨0, (⟨#[]⟩ : ByteArray), 0⟩ : S31)]) := ⟨_, rfl⟩
                        replace H : (cubitlaw09_LexScans.l1 k3 t164 y182 t174 (wrap64 (x13_3 + 1))) = some r := by first | (rw [hy182]; with_reducible exact H) | (have H2_ := (Option.bind_some _ _).symm.trans H; rw [hy182]; with_reducible exact H2_) | (have H2_ := (Option.bind_some _ _).symm.trans H; with_reducible exact H2_) | with_reducible exact H | (rw [hy182]; exact H) | exact H
                        have Ny182 := Aside0.mk hy182
                        clear hy182
                        have H' := Aside0.mk H
                        clear H
                        go_wp2_with (first | ((with_reducible refine gate_builtin (b := .append) (xs := #[.tmp 68, .tmp 70]) rfl ?_); (try (refine gate_guard (by rfl) ?_; dsimp only)); at_builtin; refine Kd.R_append k31 (w0 := w) w.heap.size rfl (.tmp 68) (.tmp 70) 23 31 (.agg #[(.int .i64 0), (.string ⟨#[]⟩), (.int .i64 0)]) 32 rfl Try.underlying23 info31 rfl (by decide) (by omega) u6 x6_3 (⟨0, (⟨#[]⟩ : ByteArray), 0⟩ : S31) [.int .i64 0, .string (⟨#[]⟩ : ByteArray), .int .i64 0] (fun k_ => some k_ ≠ (v167 : Value).ownBlock ∧ some k_ ≠ (v177 : Value).ownBlock) (fun _ => False) rfl rfl ?aP (fun _ hk => hk.elim) ?aF ?aO ?aB ?aS ?aL ?_; (case aP => exact k31_mkM _ _ _ (⟨0, (⟨#[]⟩ : ByteArray), 0⟩ : S31)); (case aB => exact (by repeat (first | (with_reducible first | exact HB.out | apply below_alloc | apply pw_below_drewN | apply below_drew1) | exact HB.out))); (case aF => exact (fun k_ hk => ⟨Kd.fresh' (Kd.R_lt (by (with_reducible repeat (first | apply Kd.R_alloc | apply Kd.R_drewN | apply Kd.R_drew)); exact HO_3.out)) k_ hk, Kd.fresh' (Kd.R_lt (by (with_reducible repeat (first | apply Kd.R_alloc | apply Kd.R_drewN | apply Kd.R_drew)); exact HO_9.out)) k_ hk⟩)); (case aO => exact (by (with_reducible repeat (first | apply Kd.R_alloc | apply Kd.R_drewN | apply Kd.R_drew)); exact HO_6.out)); (case aS => exact (below_size (by repeat (first | (with_reducible first | exact HB.out | apply below_alloc | apply pw_below_drewN | apply below_drew1) | exact HB.out)))); (case aL => have := LMc35.out; omega); intro v183 w36 ho hb hg hat; rw [← Ny182.out] at ho; have n0_ := Aside0.mk (Kd.R_after (ok := (fun k_ => some k_ ≠ (v177 : Value).ownBlock)) (by (with_reducible repeat (first | apply Kd.R_alloc | apply Kd.R_drewN | apply Kd.R_drew)); exact Kd.R_mono HO_3.out (fun _ hk => ⟨hk.2, hk.1⟩)) hg hat); have n1_ := Aside0.mk (Kd.R_after (ok := (fun k_ => some k_ ≠ (v167 : Value).ownBlock)) (by (with_reducible repeat (first | apply Kd.R_alloc | apply Kd.R_drewN | apply Kd.R_drew)); exact HO_9.out) hg hat); have n2_ := Aside0.mk (hb); have n3_ := Aside0.mk (ho); clear HO_3; clear HO_9; clear HB; clear HO_6; have HO_3 := n0_; have HO_9 := n1_; have HB := n2_; have HO184 := n3_; clear n0_ n1_ n2_ n3_; clear ho hb hg hat))
                        go_roundg k3
                        case measure => have := HJ6.out; have := HK2.out; have := HK3.out; omega
                        case rel => exact ⟨(y182), (wrap64 (x13_3 + 1)), (by first | rfl | (simp; done) | (simp [*]; done)), H', ⟨by have := HJ6.out; have := HK2.out; have := HK3.out; omega⟩, ⟨by (with_reducible repeat (first | apply Kd.R_alloc | apply Kd.R_drewN | apply Kd.R_drew)); exact Kd.R_mono HO_3.out (fun _ hk => ⟨hk.2, hk.1⟩)⟩, ⟨by (with_reducible repeat (first | apply Kd.R_alloc | apply Kd.R_drewN | apply Kd.R_drew)); exact HO184.out⟩, ⟨by (with_reducible repeat (first | apply Kd.R_alloc | apply Kd.R_drewN | apply Kd.R_drew)); exact HO_9.out⟩, ⟨by repeat (first | (with_reducible first | exact HB.out | apply below_alloc | apply pw_below_drewN | apply below_drew1) | exact HB.out)⟩⟩
                      · rw [if_neg c35] at H
                        exact absurd H (by simp)
                    · rw [if_neg c34] at H
                      have c34b0 : decide (x13_3 < 20) = false := decide_eq_false c34
                      clear c34
                      replace H := Option.bind_eq_some_iff.mp H
                      obtain ⟨t185, A370, H⟩ := H
                      replace H : (if t185 = true then (some (decide ((x6_3.length : Int) ≥ 20))) else (some false)) = some r := H
                      have A37 := Aside0.mk A370
                      clear A370
                      by_cases c38 : t185 = true
                      · subst c38
                        have H1 : (some (decide ((x6_3.length : Int) ≥ 20))) = some r := by rw [if_pos rfl] at H; exact H
                        clear H
                        have H := H1
                        clear H1
                        obtain rfl := Option.some.inj H
                        obtain ⟨Ao39, co39, eo39⟩ := Kd.R_slice HO_9.out
                        subst eo39
                        obtain ⟨Ao40, co40, eo40⟩ := Kd.R_slice HO_3.out
                        subst eo40
                        go_wp2_with (first | ((with_reducible refine gate_callee (f := 11) rfl ?_); refine goesL_ (some 74) rfl rfl Try.func11 (by kernel_rfl) rfl #[.slice Ao39 t174.length co39, .slice Ao40 t164.length co40] rfl (by (try simp only [List.map_toArray, List.map_cons, List.map_nil]); first | done | rfl | (simp only [List.length_drop, List.length_take]; rfl)) ?_; (with_reducible refine (cubitlaw09_same.calls k3 _ _ t174 _ _ t164 true _ ?side1 ?side2 ?side3 ?side4 A37.out).mono ?_); (case side1 => repeat (first | exact (Kd.R_reads' HO_9.out).2.2 | (with_reducible refine Kd.C_alloc ?_ _) | (with_reducible refine Kd.C_drewN ?_ _) | (with_reducible refine Kd.C_drew ?_))); (case side2 => exact (Kd.R_reads' HO_9.out).2.1); (case side3 => repeat (first | exact (Kd.R_reads' HO_3.out).2.2 | (with_reducible refine Kd.C_alloc ?_ _) | (with_reducible refine Kd.C_drewN ?_ _) | (with_reducible refine Kd.C_drew ?_))); (case side4 => exact (Kd.R_reads' HO_3.out).2.1); rintro e w' ⟨rfl, ⟨nd, rfl⟩⟩; refine ⟨_, rfl, ?_⟩; obtain ⟨Ao41, co41, eo41⟩ := Kd.R_slice HO_6.out; subst eo41))
                        go_ret
                        exact ⟨by first | rfl | (simp [errW_none, errW_some] <;> rfl) | (simp [*, errW_none, errW_some] <;> rfl), by repeat (first | (with_reducible first | exact HB.out | apply below_alloc | apply pw_below_drewN | apply below_drew1) | exact HB.out)⟩
                      · replace c38 := Bool.eq_false_iff.mpr c38
                        subst c38
                        have H1 : (some false) = some r := by rw [if_neg (show ¬ (false = true) by decide)] at H; exact H
                        clear H
                        have H := H1
                        clear H1
                        exact absurd (HTRUE.out.symm.trans (Option.some.inj H).symm) (by decide)
  · replace c3 := Bool.eq_false_iff.mpr c3
    subst c3
    have H1 : (some false) = some r := by rw [if_neg (show ¬ (false = true) by decide)] at H; exact H
    clear H
    have H := H1
    clear H1
    exact absurd (HTRUE.out.symm.trans (Option.some.inj H).symm) (by decide)

/-- THE ONE PURE STATEMENT of cubitlaw09_LexScans: yours. -/
def cubitlaw09_LexScans.Pure : Prop := ∀ (a0 : ByteArray), a0.size ≤ 140737488351232 → ∃ k, cubitlaw09_LexScans.f k a0 = some true
theorem cubitlaw09_LexScans.walk (P : cubitlaw09_LexScans.Pure) (a0 : ByteArray) (w : World) (w0 : a0.size ≤ 140737488351232) :
    Calls Try.prog 3 #[.string a0] w fun e w' => e = .returned (.bool true) ∧ Below w.heap.size w w' := by
  obtain ⟨k, h⟩ := P a0 w0
  refine (cubitlaw09_LexScans.calls k a0 true w h rfl).mono ?_
  rintro e w' ⟨rfl, hd⟩
  exact ⟨rfl, hd⟩

end Go.Proofs.Ytkonklmgkkbnmaa.PA
