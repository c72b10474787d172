/- Printed for this claim by a program of the session: contracts of Go functions: a call answers what its Lean function tells, wherever that tells something. -/
import Derived.Test.YtoebcbhadcpcoaaDoorPAx0
import Derived.Test.YtoebcbhadcpcoaaDoorPAx2
namespace Go.Proofs.YtoebcbhadcpcoaaDoor.PA
open Go.RowKit Go.Proofs.YtoebcbhadcpcoaaDoorW.PrintWords Go.Proofs.YtoebcbhadcpcoaaDoorW.PrintLast Go.Proofs.YtoebcbhadcpcoaaDoorW.PrintMore
attribute [local go_sem] max2_int min2_int max_two min_two max_three min_three max_four min_four   -- for this text's walks alone
set_option linter.unusedVariables false
set_option linter.unusedSimpArgs false

/-! ### bits_Swap: function 36 -/
def bits_Swap.j0 : Nat → Int → Int → Int → Bool → Option (Int × Int)
  | 0, _, _, _, _ => none
  | k + 1, x0, x1, x2, x21 => if x21 = true then (some (0, 2)) else (if 0 ≤ x1 then (if 0 ≤ x2 then (if (Go.bits .and .u64 (shr .u64 x0 x1) 1) = (Go.bits .and .u64 (shr .u64 x0 x2) 1) then (some (x0, 0)) else (some (Go.bits .xor .u64 x0 (Go.bits .or .u64 (shl .u64 1 x1) (shl .u64 1 x2)), 0))) else (none)) else (none))
def bits_Swap.f (k : Nat) (a0 : Int) (a1 : Int) (a2 : Int) : Option (Int × Int) := if a1 < 0 then (bits_Swap.j0 k a0 a1 a2 true) else (if a1 > 63 then (bits_Swap.j0 k a0 a1 a2 true) else (if a2 < 0 then (bits_Swap.j0 k a0 a1 a2 true) else (bits_Swap.j0 k a0 a1 a2 (decide (a2 > 63)))))
theorem bits_Swap.mono_l : ∀ k, (∀ y0 y1 y2 y3, LeO (bits_Swap.j0 k y0 y1 y2 y3) (bits_Swap.j0 (k + 1) y0 y1 y2 y3))
  | 0 => fun _ _ _ _ r h => by simp [bits_Swap.j0] at h
  | k + 1 => by
    have ih0 := bits_Swap.mono_l k
    · intro y0 y1 y2 y3
      unfold bits_Swap.j0
      repeat' first
      | (with_reducible exact ih0 _ _ _ _)
      | (with_reducible exact LeO.refl _)
      | (with_reducible exact LeO.none _)
      | (with_reducible refine LeO.ite ?_ ?_)
      | (with_reducible refine LeO.bind ?_ (fun _ => ?_))
      | exact ih0 _ _ _ _
      | exact LeO.none _
      | refine LeO.ite ?_ ?_
      | refine LeO.bind ?_ (fun _ => ?_)
theorem bits_Swap.mono : ∀ a0 a1 a2 k, LeO (bits_Swap.f k a0 a1 a2) (bits_Swap.f (k + 1) a0 a1 a2) := by
  intro a0 a1 a2 k
  have ih0 := bits_Swap.mono_l k
  unfold bits_Swap.f
  repeat' first
      | (with_reducible exact ih0 _ _ _ _)
      | (with_reducible exact LeO.refl _)
      | (with_reducible exact LeO.none _)
      | (with_reducible refine LeO.ite ?_ ?_)
      | (with_reducible refine LeO.bind ?_ (fun _ => ?_))
      | exact ih0 _ _ _ _
      | exact LeO.none _
      | refine LeO.ite ?_ ?_
      | refine LeO.bind ?_ (fun _ => ?_)
set_option maxHeartbeats 8000000 in
set_option maxRecDepth 100000 in
theorem bits_Swap.calls (k : Nat) (a0 : Int) (a1 : Int) (a2 : Int) (r1 : Int) (r2 : Int) (w : World) (h : bits_Swap.f k a0 a1 a2 = some (r1, r2)) :
    Calls Tryd.prog 36 #[.int .u64 a0, .int .i64 a1, .int .i64 a2] w fun e w' => e = .returned (.tuple #[.int .u64 r1, .int .i64 r2]) ∧ Drawn0 w w' := by
  have H : (if a1 < 0 then (bits_Swap.j0 k a0 a1 a2 true) else (if a1 > 63 then (bits_Swap.j0 k a0 a1 a2 true) else (if a2 < 0 then (bits_Swap.j0 k a0 a1 a2 true) else (bits_Swap.j0 k a0 a1 a2 (decide (a2 > 63)))))) = some (r1, r2) := h
  clear h
  have HC4 := Aside0.mk H
  clear H
  go_enter Tryd.func36, Tryd.ntmps36
  go_upto_region 1 with (fail)
  repeat (go_quiet (fail); go_upto_region 1 with (fail))
  go_cut [21] (fun v21 wc => ∃ (kq : Nat) (x21_3 : Bool), v21 = .bool x21_3 ∧ Aside0 (bits_Swap.j0 kq a0 a1 a2 x21_3 = some (r1, r2)) ∧ Aside0 (kq ≤ k) ∧ Drawn0 w wc)
  case first =>
    have H := HC4.out
    clear HC4
    by_cases c5 : a1 < 0
    · rw [if_pos c5] at H
      have c5b0 : decide (a1 < 0) = true := decide_eq_true c5
      clear c5
      (first | rw [c5b0] | (simp only [i64_w, i32_w]; rw [c5b0]) | skip)
      have H' := Aside0.mk H
      clear H
      go_wp2
      repeat (go_quiet (fail); try go_wp2)
      go_meet
      case rel => exact ⟨_, (true), (by first | rfl | (simp; done) | (simp [*]; done)), H', ⟨by first | omega | exact Nat.le_refl _⟩, by repeat (first | exact Drawn0.refl _ | apply Drawn0.step)⟩
    · rw [if_neg c5] at H
      have c5b0 : decide (a1 < 0) = false := decide_eq_false c5
      clear c5
      (first | rw [c5b0] | (simp only [i64_w, i32_w]; rw [c5b0]) | skip)
      by_cases c6 : a1 > 63
      · rw [if_pos c6] at H
        have c6b0 : decide (63 < a1) = true := decide_eq_true c6
        clear c6
        have H' := Aside0.mk H
        clear H
        go_wp2
        repeat (go_quiet (fail); try go_wp2)
        go_meet
        case rel => exact ⟨_, (true), (by first | rfl | (simp; done) | (simp [*]; done)), H', ⟨by first | omega | exact Nat.le_refl _⟩, by repeat (first | exact Drawn0.refl _ | apply Drawn0.step)⟩
      · rw [if_neg c6] at H
        have c6b0 : decide (63 < a1) = false := decide_eq_false c6
        clear c6
        by_cases c7 : a2 < 0
        · rw [if_pos c7] at H
          have c7b0 : decide (a2 < 0) = true := decide_eq_true c7
          clear c7
          have H' := Aside0.mk H
          clear H
          go_wp2
          repeat (go_quiet (fail); try go_wp2)
          go_meet
          case rel => exact ⟨_, (true), (by first | rfl | (simp; done) | (simp [*]; done)), H', ⟨by first | omega | exact Nat.le_refl _⟩, by repeat (first | exact Drawn0.refl _ | apply Drawn0.step)⟩
        · rw [if_neg c7] at H
          have c7b0 : decide (a2 < 0) = false := decide_eq_false c7
          clear c7
          have H' := Aside0.mk H
          clear H
          go_wp2
          repeat (go_quiet (fail); try go_wp2)
          go_meet
          case rel => exact ⟨_, (decide (a2 > 63)), (by first | rfl | (simp; done) | (simp [*]; done)), H', ⟨by first | omega | exact Nat.le_refl _⟩, by repeat (first | exact Drawn0.refl _ | apply Drawn0.step)⟩
  case rest =>
    clear HC4
    try clear p2
    try clear c3
    try clear c5
    try clear c5b0
    try clear c6
    try clear c6b0
    try clear c7
    try clear c7b0
    obtain ⟨kq, x21_3, rfl, HA, HJ3, ⟨mc3, rfl⟩⟩ := hcut
    cases kq with
    | zero => exact absurd HA.out (by simp [bits_Swap.j0])
    | succ kj3 =>
      have H := HA.out
      clear HA
      simp only [bits_Swap.j0] at H
      by_cases c8 : x21_3 = true
      · subst c8
        have H1 : (some (0, 2)) = some (r1, r2) := by rw [if_pos rfl] at H; exact H
        clear H
        have H := H1
        clear H1
        simp only [Option.some.injEq, Prod.mk.injEq] at H
        obtain ⟨rfl, rfl⟩ := H
        go_wp2
        repeat (go_quiet (fail); try go_wp2)
        go_ret2
        exact ⟨by first | rfl | (simp; done) | (simp [*]; done), by repeat (first | exact Drawn0.refl _ | apply Drawn0.step)⟩
      · replace c8 := Bool.eq_false_iff.mpr c8
        subst c8
        have H1 : (if 0 ≤ a1 then (if 0 ≤ a2 then (if (Go.bits .and .u64 (shr .u64 a0 a1) 1) = (Go.bits .and .u64 (shr .u64 a0 a2) 1) then (some (a0, 0)) else (some (Go.bits .xor .u64 a0 (Go.bits .or .u64 (shl .u64 1 a1) (shl .u64 1 a2)), 0))) else (none)) else (none)) = some (r1, r2) := by rw [if_neg (show ¬ (false = true) by decide)] at H; exact H
        clear H
        have H := H1
        clear H1
        by_cases c9 : 0 ≤ a1
        · rw [if_pos c9] at H
          have c9b0 := eq_true c9
          have c9b1 : decide (0 ≤ a1) = true := decide_eq_true c9
          clear c9
          obtain ⟨ji10, hji10⟩ : ∃ j_ : Int, (shr .u64 a0 a1) = j_ := ⟨_, rfl⟩
          replace H : (if 0 ≤ a2 then (if (Go.bits .and .u64 (ji10) 1) = (Go.bits .and .u64 (shr .u64 a0 a2) 1) then (some (a0, 0)) else (some (Go.bits .xor .u64 a0 (Go.bits .or .u64 (shl .u64 1 a1) (shl .u64 1 a2)), 0))) else (none)) = some (r1, r2) := by first | (rw [hji10] at H; exact H) | (simp only [hji10] at H ⊢; exact H)
          have hji10_ : (a0 / 2 ^ min a1.toNat 64) = ji10 := hji10
          have hji10z : a1 ≤ 64 → (a0 / 2 ^ a1.toNat) = ji10 := shr_small hji10
          by_cases c11 : 0 ≤ a2
          · rw [if_pos c11] at H
            have c11b0 := eq_true c11
            have c11b1 : decide (0 ≤ a2) = true := decide_eq_true c11
            clear c11
            obtain ⟨ji12, hji12⟩ : ∃ j_ : Int, (shr .u64 a0 a2) = j_ := ⟨_, rfl⟩
            replace H : (if (Go.bits .and .u64 (ji10) 1) = (Go.bits .and .u64 (ji12) 1) then (some (a0, 0)) else (some (Go.bits .xor .u64 a0 (Go.bits .or .u64 (shl .u64 1 a1) (shl .u64 1 a2)), 0))) = some (r1, r2) := by first | (rw [hji12] at H; exact H) | (simp only [hji12] at H ⊢; exact H)
            have hji12_ : (a0 / 2 ^ min a2.toNat 64) = ji12 := hji12
            have hji12z : a2 ≤ 64 → (a0 / 2 ^ a2.toNat) = ji12 := shr_small hji12
            by_cases c13 : (Go.bits .and .u64 (ji10) 1) = (Go.bits .and .u64 (ji12) 1)
            · rw [if_pos c13] at H
              have c13b0 : ((Go.bits .and .u64 (ji10) 1) == (Go.bits .and .u64 (ji12) 1)) = true := beq_iff_eq.mpr c13
              have c13b1 : ((Go.bits .and .u64 (ji10) 1) != (Go.bits .and .u64 (ji12) 1)) = false := bne_eq_false_iff_eq.mpr c13
              clear c13
              simp only [Option.some.injEq, Prod.mk.injEq] at H
              obtain ⟨rfl, rfl⟩ := H
              go_wp2
              repeat (go_quiet (fail); try go_wp2)
              go_ret2
              exact ⟨by first | rfl | (simp; done) | (simp only [← hji10, ← hji12] <;> (first | rfl | simp)) | (simp [*]; done), by repeat (first | exact Drawn0.refl _ | apply Drawn0.step)⟩
            · rw [if_neg c13] at H
              have c13b0 : ((Go.bits .and .u64 (ji10) 1) == (Go.bits .and .u64 (ji12) 1)) = false := beq_eq_false_iff_ne.mpr c13
              have c13b1 : ((Go.bits .and .u64 (ji10) 1) != (Go.bits .and .u64 (ji12) 1)) = true := bne_iff_ne.mpr c13
              have c14b0 := eq_true (of_decide_eq_true (by first | (with_reducible assumption) | assumption) : 0 ≤ a1)
              obtain ⟨ji15, hji15⟩ : ∃ j_ : Int, (shl .u64 1 a1) = j_ := ⟨_, rfl⟩
              replace H : (some (Go.bits .xor .u64 a0 (Go.bits .or .u64 (ji15) (shl .u64 1 a2)), 0)) = some (r1, r2) := by first | (rw [hji15] at H; exact H) | (simp only [hji15] at H ⊢; exact H)
              have hji15_ : (IntKind.u64.wrap (1 * 2 ^ min a1.toNat 64)) = ji15 := hji15
              have hji15z : a1 ≤ 64 → (IntKind.u64.wrap (1 * 2 ^ a1.toNat)) = ji15 := shl_small hji15
              have hji15u : (IntKind.u64.wrap (2 ^ min a1.toNat 64)) = ji15 := by have h_ := hji15_; rw [Int.one_mul] at h_; exact h_
              have hji15v : a1 ≤ 64 → (IntKind.u64.wrap (2 ^ a1.toNat)) = ji15 := fun hle_ => by have h_ := hji15z hle_; rw [Int.one_mul] at h_; exact h_
              have c16b0 := eq_true (of_decide_eq_true (by first | (with_reducible assumption) | assumption) : 0 ≤ a2)
              obtain ⟨ji17, hji17⟩ : ∃ j_ : Int, (shl .u64 1 a2) = j_ := ⟨_, rfl⟩
              replace H : (some (Go.bits .xor .u64 a0 (Go.bits .or .u64 (ji15) (ji17)), 0)) = some (r1, r2) := by first | (rw [hji17] at H; exact H) | (simp only [hji17] at H ⊢; exact H)
              have hji17_ : (IntKind.u64.wrap (1 * 2 ^ min a2.toNat 64)) = ji17 := hji17
              have hji17z : a2 ≤ 64 → (IntKind.u64.wrap (1 * 2 ^ a2.toNat)) = ji17 := shl_small hji17
              have hji17u : (IntKind.u64.wrap (2 ^ min a2.toNat 64)) = ji17 := by have h_ := hji17_; rw [Int.one_mul] at h_; exact h_
              have hji17v : a2 ≤ 64 → (IntKind.u64.wrap (2 ^ a2.toNat)) = ji17 := fun hle_ => by have h_ := hji17z hle_; rw [Int.one_mul] at h_; exact h_
              simp only [Option.some.injEq, Prod.mk.injEq] at H
              obtain ⟨rfl, rfl⟩ := H
              go_wp2
              repeat (go_quiet (fail); try go_wp2)
              go_ret2
              exact ⟨by first | rfl | (simp; done) | (simp only [← hji10, ← hji12, ← hji15, ← hji17] <;> (first | rfl | simp)) | (simp [*]; done), by repeat (first | exact Drawn0.refl _ | apply Drawn0.step)⟩
          · rw [if_neg c11] at H
            exact absurd H (by simp)
        · rw [if_neg c9] at H
          exact absurd H (by simp)

/-! ### cubitref03_Open: function 37 -/
mutual
def cubitref03_Open.j0 : Nat → Int → Int → Int → Bool → Option (Int × Int)
  | 0, _, _, _, _ => none
  | k + 1, x0, x1, x2, x23 => if x23 = true then (some (0, 2)) else ((cubitref03_bit.f x0 63).bind fun t261 => (if t261 = 1 then (some (0, 1)) else (cubitref03_Open.l0 k x0 x1 x2 0 0)))
def cubitref03_Open.l0 : Nat → Int → Int → Int → Int → Int → Option (Int × Int)
  | 0, _, _, _, _, _ => none
  | k + 1, x0, x1, x2, x8, x9 => if x9 < 64 then (if x9 < x1 then ((cubitref03_bit.f x0 x9).bind fun t262 => ((cubitref03_set.f x8 x9 t262).bind fun t263 => (cubitref03_Open.l0 k x0 x1 x2 t263 (wrap64 (x9 + 1))))) else (if x9 = x1 then ((cubitref03_set.f x8 x9 x2).bind fun t264 => (cubitref03_Open.l0 k x0 x1 x2 t264 (wrap64 (x9 + 1)))) else ((cubitref03_bit.f x0 (wrap64 (x9 - 1))).bind fun t265 => ((cubitref03_set.f x8 x9 t265).bind fun t266 => (cubitref03_Open.l0 k x0 x1 x2 t266 (wrap64 (x9 + 1))))))) else (some (x8, 0))
end
def cubitref03_Open.f (k : Nat) (a0 : Int) (a1 : Int) (a2 : Int) : Option (Int × Int) := if a1 < 0 then (cubitref03_Open.j0 k a0 a1 a2 true) else (if a1 > 63 then (cubitref03_Open.j0 k a0 a1 a2 true) else (if a2 < 0 then (cubitref03_Open.j0 k a0 a1 a2 true) else (cubitref03_Open.j0 k a0 a1 a2 (decide (a2 > 1)))))
theorem cubitref03_Open.mono_l : ∀ k, (∀ y0 y1 y2 y3, LeO (cubitref03_Open.j0 k y0 y1 y2 y3) (cubitref03_Open.j0 (k + 1) y0 y1 y2 y3)) ∧ (∀ y0 y1 y2 y3 y4, LeO (cubitref03_Open.l0 k y0 y1 y2 y3 y4) (cubitref03_Open.l0 (k + 1) y0 y1 y2 y3 y4))
  | 0 => ⟨fun _ _ _ _ r h => by simp [cubitref03_Open.j0] at h, fun _ _ _ _ _ r h => by simp [cubitref03_Open.l0] at h⟩
  | k + 1 => by
    obtain ⟨ih0, ih1⟩ := cubitref03_Open.mono_l k
    refine ⟨?_, ?_⟩
    · intro y0 y1 y2 y3
      unfold cubitref03_Open.j0
      repeat' first
      | (with_reducible exact ih0 _ _ _ _)
      | (with_reducible exact ih1 _ _ _ _ _)
      | (with_reducible exact LeO.refl _)
      | (with_reducible exact LeO.none _)
      | (with_reducible refine LeO.ite ?_ ?_)
      | (with_reducible refine LeO.bind ?_ (fun _ => ?_))
      | exact ih0 _ _ _ _
      | exact ih1 _ _ _ _ _
      | exact LeO.none _
      | refine LeO.ite ?_ ?_
      | refine LeO.bind ?_ (fun _ => ?_)
    · intro y0 y1 y2 y3 y4
      unfold cubitref03_Open.l0
      repeat' first
      | (with_reducible exact ih0 _ _ _ _)
      | (with_reducible exact ih1 _ _ _ _ _)
      | (with_reducible exact LeO.refl _)
      | (with_reducible exact LeO.none _)
      | (with_reducible refine LeO.ite ?_ ?_)
      | (with_reducible refine LeO.bind ?_ (fun _ => ?_))
      | exact ih0 _ _ _ _
      | exact ih1 _ _ _ _ _
      | exact LeO.none _
      | refine LeO.ite ?_ ?_
      | refine LeO.bind ?_ (fun _ => ?_)
theorem cubitref03_Open.mono : ∀ a0 a1 a2 k, LeO (cubitref03_Open.f k a0 a1 a2) (cubitref03_Open.f (k + 1) a0 a1 a2) := by
  intro a0 a1 a2 k
  obtain ⟨ih0, ih1⟩ := cubitref03_Open.mono_l k
  unfold cubitref03_Open.f
  repeat' first
      | (with_reducible exact ih0 _ _ _ _)
      | (with_reducible exact ih1 _ _ _ _ _)
      | (with_reducible exact LeO.refl _)
      | (with_reducible exact LeO.none _)
      | (with_reducible refine LeO.ite ?_ ?_)
      | (with_reducible refine LeO.bind ?_ (fun _ => ?_))
      | exact ih0 _ _ _ _
      | exact ih1 _ _ _ _ _
      | exact LeO.none _
      | refine LeO.ite ?_ ?_
      | refine LeO.bind ?_ (fun _ => ?_)
set_option maxHeartbeats 8000000 in
set_option maxRecDepth 100000 in
theorem cubitref03_Open.calls (k : Nat) (a0 : Int) (a1 : Int) (a2 : Int) (r1 : Int) (r2 : Int) (w : World) (h : cubitref03_Open.f k a0 a1 a2 = some (r1, r2)) :
    Calls Tryd.prog 37 #[.int .u64 a0, .int .i64 a1, .int .i64 a2] w fun e w' => e = .returned (.tuple #[.int .u64 r1, .int .i64 r2]) ∧ Drawn0 w w' := by
  have H : (if a1 < 0 then (cubitref03_Open.j0 k a0 a1 a2 true) else (if a1 > 63 then (cubitref03_Open.j0 k a0 a1 a2 true) else (if a2 < 0 then (cubitref03_Open.j0 k a0 a1 a2 true) else (cubitref03_Open.j0 k a0 a1 a2 (decide (a2 > 1)))))) = some (r1, r2) := h
  clear h
  have HC4 := Aside0.mk H
  clear H
  go_enter Tryd.func37, Tryd.ntmps37
  go_upto_region 1 with (fail)
  go_cut [23] (fun v23 wc => ∃ (kq : Nat) (x23_3 : Bool), v23 = .bool x23_3 ∧ Aside0 (cubitref03_Open.j0 kq a0 a1 a2 x23_3 = some (r1, r2)) ∧ Aside0 (kq ≤ k) ∧ Drawn0 w wc)
  case first =>
    have H := HC4.out
    clear HC4
    by_cases c5 : a1 < 0
    · rw [if_pos c5] at H
      have c5b0 : decide (a1 < 0) = true := decide_eq_true c5
      clear c5
      (first | rw [c5b0] | (simp only [i64_w, i32_w]; rw [c5b0]) | skip)
      have H' := Aside0.mk H
      clear H
      go_wp2
      go_meet
      case rel => exact ⟨_, (true), (by first | rfl | (simp; done) | (simp [*]; done)), H', ⟨by first | omega | exact Nat.le_refl _⟩, by repeat (first | exact Drawn0.refl _ | apply Drawn0.step)⟩
    · rw [if_neg c5] at H
      have c5b0 : decide (a1 < 0) = false := decide_eq_false c5
      clear c5
      (first | rw [c5b0] | (simp only [i64_w, i32_w]; rw [c5b0]) | skip)
      by_cases c6 : a1 > 63
      · rw [if_pos c6] at H
        have c6b0 : decide (63 < a1) = true := decide_eq_true c6
        clear c6
        have H' := Aside0.mk H
        clear H
        go_wp2
        go_meet
        case rel => exact ⟨_, (true), (by first | rfl | (simp; done) | (simp [*]; done)), H', ⟨by first | omega | exact Nat.le_refl _⟩, by repeat (first | exact Drawn0.refl _ | apply Drawn0.step)⟩
      · rw [if_neg c6] at H
        have c6b0 : decide (63 < a1) = false := decide_eq_false c6
        clear c6
        by_cases c7 : a2 < 0
        · rw [if_pos c7] at H
          have c7b0 : decide (a2 < 0) = true := decide_eq_true c7
          clear c7
          have H' := Aside0.mk H
          clear H
          go_wp2
          go_meet
          case rel => exact ⟨_, (true), (by first | rfl | (simp; done) | (simp [*]; done)), H', ⟨by first | omega | exact Nat.le_refl _⟩, by repeat (first | exact Drawn0.refl _ | apply Drawn0.step)⟩
        · rw [if_neg c7] at H
          have c7b0 : decide (a2 < 0) = false := decide_eq_false c7
          clear c7
          have H' := Aside0.mk H
          clear H
          go_wp2
          go_meet
          case rel => exact ⟨_, (decide (a2 > 1)), (by first | rfl | (simp; done) | (simp [*]; done)), H', ⟨by first | omega | exact Nat.le_refl _⟩, by repeat (first | exact Drawn0.refl _ | apply Drawn0.step)⟩
  case rest =>
    clear HC4
    try clear p2
    try clear c3
    try clear c5
    try clear c5b0
    try clear c6
    try clear c6b0
    try clear c7
    try clear c7b0
    obtain ⟨kq, x23_3, rfl, HA, HJ3, ⟨mc3, rfl⟩⟩ := hcut
    cases kq with
    | zero => exact absurd HA.out (by simp [cubitref03_Open.j0])
    | succ kj3 =>
      have H := HA.out
      clear HA
      simp only [cubitref03_Open.j0] at H
      by_cases c8 : x23_3 = true
      · subst c8
        have H1 : (some (0, 2)) = some (r1, r2) := by rw [if_pos rfl] at H; exact H
        clear H
        have H := H1
        clear H1
        simp only [Option.some.injEq, Prod.mk.injEq] at H
        obtain ⟨rfl, rfl⟩ := H
        go_wp2
        go_ret2
        exact ⟨by first | rfl | (simp; done) | (simp [*]; done), by repeat (first | exact Drawn0.refl _ | apply Drawn0.step)⟩
      · replace c8 := Bool.eq_false_iff.mpr c8
        subst c8
        have H1 : ((cubitref03_bit.f a0 63).bind fun t261 => (if t261 = 1 then (some (0, 1)) else (cubitref03_Open.l0 kj3 a0 a1 a2 0 0))) = some (r1, r2) := by rw [if_neg (show ¬ (false = true) by decide)] at H; exact H
        clear H
        have H := H1
        clear H1
        replace H := Option.bind_eq_some_iff.mp H
        obtain ⟨t261, A90, H⟩ := H
        replace H : (if t261 = 1 then (some (0, 1)) else (cubitref03_Open.l0 kj3 a0 a1 a2 0 0)) = some (r1, r2) := H
        have A9 := Aside0.mk A90
        clear A90
        by_cases c10 : t261 = 1
        · rw [if_pos c10] at H
          have c10b0 : (t261 == 1) = true := beq_iff_eq.mpr c10
          have c10b1 : (t261 != 1) = false := bne_eq_false_iff_eq.mpr c10
          clear c10
          simp only [Option.some.injEq, Prod.mk.injEq] at H
          obtain ⟨rfl, rfl⟩ := H
          go_wp2_with (first | ((with_reducible refine gate_callee (f := 40) rfl ?_); refine goesL_ (some 25) rfl rfl Tryd.func40 (by kernel_rfl) rfl #[.int .u64 a0, .int .i64 63] rfl (by (try simp only [List.map_toArray, List.map_cons, List.map_nil]); first | done | rfl | (simp only [List.length_drop, List.length_take]; rfl)) ?_; (with_reducible refine (cubitref03_bit.calls a0 63 t261 _ A9.out).mono ?_); rintro e w' ⟨rfl, ⟨nd, rfl⟩⟩; refine ⟨_, rfl, ?_⟩))
          go_ret2
          exact ⟨by first | rfl | (simp; done) | (simp [*]; done), by repeat (first | exact Drawn0.refl _ | apply Drawn0.step)⟩
        · rw [if_neg c10] at H
          have c10b0 : (t261 == 1) = false := beq_eq_false_iff_ne.mpr c10
          have c10b1 : (t261 != 1) = true := bne_iff_ne.mpr c10
          have H' := Aside0.mk H
          clear H
          go_wp2_with (first | ((with_reducible refine gate_callee (f := 40) rfl ?_); refine goesL_ (some 25) rfl rfl Tryd.func40 (by kernel_rfl) rfl #[.int .u64 a0, .int .i64 63] rfl (by (try simp only [List.map_toArray, List.map_cons, List.map_nil]); first | done | rfl | (simp only [List.length_drop, List.length_take]; rfl)) ?_; (with_reducible refine (cubitref03_bit.calls a0 63 t261 _ A9.out).mono ?_); rintro e w' ⟨rfl, ⟨nd, rfl⟩⟩; refine ⟨_, rfl, ?_⟩))
          go_loopg [8, 9] kj3 (fun kq v8 v9 w' => ∃ (x8_2 : Int) (x9_2 : Int), v8 = .int .u64 x8_2 ∧ v9 = .int .i64 x9_2 ∧ Aside0 (cubitref03_Open.l0 kq a0 a1 a2 x8_2 x9_2 = some (r1, r2)) ∧ Aside0 (kq ≤ kj3) ∧ Drawn0 w w')
          case atStart => exact ⟨(0), (0), (by first | rfl | (simp; done) | (simp [*]; done)), (by first | rfl | (simp; done) | (simp [*]; done)), H', ⟨Nat.le_refl _⟩, by repeat (first | exact Drawn0.refl _ | apply Drawn0.step)⟩
          case round =>
            clear H'
            try clear c1
            try clear p2
            try clear c3
            try clear c4
            try clear c5
            try clear c5b0
            try clear c6
            try clear c6b0
            try clear c7
            try clear c7b0
            try clear c8
            try clear c10
            try clear c10b0
            try clear c10b1
            try clear p2
            obtain ⟨x8_2, x9_2, rfl, rfl, HA, HK2, ⟨m2, rfl⟩⟩ := hrel
            cases gk with
            | zero => exact absurd HA.out (by simp [cubitref03_Open.l0])
            | succ k2 =>
              have H := HA.out
              clear HA
              simp only [cubitref03_Open.l0] at H
              by_cases c11 : x9_2 < 64
              · rw [if_pos c11] at H
                have c11b0 : decide (x9_2 < 64) = true := decide_eq_true c11
                clear c11
                by_cases c12 : x9_2 < a1
                · rw [if_pos c12] at H
                  have c12b0 : decide (x9_2 < a1) = true := decide_eq_true c12
                  clear c12
                  replace H := Option.bind_eq_some_iff.mp H
                  obtain ⟨t262, A130, H⟩ := H
                  replace H : ((cubitref03_set.f x8_2 x9_2 t262).bind fun t263 => (cubitref03_Open.l0 k2 a0 a1 a2 t263 (wrap64 (x9_2 + 1)))) = some (r1, r2) := H
                  have A13 := Aside0.mk A130
                  clear A130
                  replace H := Option.bind_eq_some_iff.mp H
                  obtain ⟨t263, A140, H⟩ := H
                  replace H : (cubitref03_Open.l0 k2 a0 a1 a2 t263 (wrap64 (x9_2 + 1))) = some (r1, r2) := H
                  have A14 := Aside0.mk A140
                  clear A140
                  have H' := Aside0.mk H
                  clear H
                  go_wp2_with (first | ((with_reducible refine gate_callee (f := 40) rfl ?_); refine goesL_ (some 46) rfl rfl Tryd.func40 (by kernel_rfl) rfl #[.int .u64 a0, .int .i64 x9_2] rfl (by (try simp only [List.map_toArray, List.map_cons, List.map_nil]); first | done | rfl | (simp only [List.length_drop, List.length_take]; rfl)) ?_; (with_reducible refine (cubitref03_bit.calls a0 x9_2 t262 _ A13.out).mono ?_); rintro e w' ⟨rfl, ⟨nd, rfl⟩⟩; refine ⟨_, rfl, ?_⟩) | ((with_reducible refine gate_callee (f := 39) rfl ?_); refine goesL_ (some 47) rfl rfl Tryd.func39 (by kernel_rfl) rfl #[.int .u64 x8_2, .int .i64 x9_2, .int .i64 t262] rfl (by (try simp only [List.map_toArray, List.map_cons, List.map_nil]); first | done | rfl | (simp only [List.length_drop, List.length_take]; rfl)) ?_; (with_reducible refine (cubitref03_set.calls x8_2 x9_2 t262 t263 _ A14.out).mono ?_); rintro e w' ⟨rfl, ⟨nd, rfl⟩⟩; refine ⟨_, rfl, ?_⟩))
                  go_roundg k2
                  case measure => have := HJ3.out; have := HK2.out; omega
                  case rel => exact ⟨(t263), (wrap64 (x9_2 + 1)), (by first | rfl | (simp; done) | (simp [*]; done)), (by first | rfl | (simp; done) | (simp [*]; done)), H', ⟨by have := HJ3.out; have := HK2.out; omega⟩, by repeat (first | exact Drawn0.refl _ | apply Drawn0.step)⟩
                · rw [if_neg c12] at H
                  have c12b0 : decide (x9_2 < a1) = false := decide_eq_false c12
                  clear c12
                  by_cases c15 : x9_2 = a1
                  · rw [if_pos c15] at H
                    have c15b0 : (x9_2 == a1) = true := beq_iff_eq.mpr c15
                    have c15b1 : (x9_2 != a1) = false := bne_eq_false_iff_eq.mpr c15
                    clear c15
                    replace H := Option.bind_eq_some_iff.mp H
                    obtain ⟨t264, A160, H⟩ := H
                    replace H : (cubitref03_Open.l0 k2 a0 a1 a2 t264 (wrap64 (x9_2 + 1))) = some (r1, r2) := H
                    have A16 := Aside0.mk A160
                    clear A160
                    have H' := Aside0.mk H
                    clear H
                    go_wp2_with (first | ((with_reducible refine gate_callee (f := 39) rfl ?_); refine goesL_ (some 55) rfl rfl Tryd.func39 (by kernel_rfl) rfl #[.int .u64 x8_2, .int .i64 x9_2, .int .i64 a2] rfl (by (try simp only [List.map_toArray, List.map_cons, List.map_nil]); first | done | rfl | (simp only [List.length_drop, List.length_take]; rfl)) ?_; (with_reducible refine (cubitref03_set.calls x8_2 x9_2 a2 t264 _ A16.out).mono ?_); rintro e w' ⟨rfl, ⟨nd, rfl⟩⟩; refine ⟨_, rfl, ?_⟩))
                    go_roundg k2
                    case measure => have := HJ3.out; have := HK2.out; omega
                    case rel => exact ⟨(t264), (wrap64 (x9_2 + 1)), (by first | rfl | (simp; done) | (simp [*]; done)), (by first | rfl | (simp; done) | (simp [*]; done)), H', ⟨by have := HJ3.out; have := HK2.out; omega⟩, by repeat (first | exact Drawn0.refl _ | apply Drawn0.step)⟩
                  · rw [if_neg c15] at H
                    have c15b0 : (x9_2 == a1) = false := beq_eq_false_iff_ne.mpr c15
                    have c15b1 : (x9_2 != a1) = true := bne_iff_ne.mpr c15
                    replace H := Option.bind_eq_some_iff.mp H
                    obtain ⟨t265, A170, H⟩ := H
                    replace H : ((cubitref03_set.f x8_2 x9_2 t265).bind fun t266 => (cubitref03_Open.l0 k2 a0 a1 a2 t266 (wrap64 (x9_2 + 1)))) = some (r1, r2) := H
                    have A17 := Aside0.mk A170
                    clear A170
                    replace H := Option.bind_eq_some_iff.mp H
                    obtain ⟨t266, A180, H⟩ := H
                    replace H : (cubitref03_Open.l0 k2 a0 a1 a2 t266 (wrap64 (x9_2 + 1))) = some (r1, r2) := H
                    have A18 := Aside0.mk A180
                    clear A180
                    have H' := Aside0.mk H
                    clear H
                    go_wp2_with (first | ((with_reducible refine gate_callee (f := 40) rfl ?_); refine goesL_ (some 36) rfl rfl Tryd.func40 (by kernel_rfl) rfl #[.int .u64 a0, .int .i64 (wrap64 (x9_2 - 1))] rfl (by (try simp only [List.map_toArray, List.map_cons, List.map_nil]); first | done | rfl | (simp only [List.length_drop, List.length_take]; rfl)) ?_; (with_reducible refine (cubitref03_bit.calls a0 (wrap64 (x9_2 - 1)) t265 _ A17.out).mono ?_); rintro e w' ⟨rfl, ⟨nd, rfl⟩⟩; refine ⟨_, rfl, ?_⟩) | ((with_reducible refine gate_callee (f := 39) rfl ?_); refine goesL_ (some 37) rfl rfl Tryd.func39 (by kernel_rfl) rfl #[.int .u64 x8_2, .int .i64 x9_2, .int .i64 t265] rfl (by (try simp only [List.map_toArray, List.map_cons, List.map_nil]); first | done | rfl | (simp only [List.length_drop, List.length_take]; rfl)) ?_; (with_reducible refine (cubitref03_set.calls x8_2 x9_2 t265 t266 _ A18.out).mono ?_); rintro e w' ⟨rfl, ⟨nd, rfl⟩⟩; refine ⟨_, rfl, ?_⟩))
                    go_roundg k2
                    case measure => have := HJ3.out; have := HK2.out; omega
                    case rel => exact ⟨(t266), (wrap64 (x9_2 + 1)), (by first | rfl | (simp; done) | (simp [*]; done)), (by first | rfl | (simp; done) | (simp [*]; done)), H', ⟨by have := HJ3.out; have := HK2.out; omega⟩, by repeat (first | exact Drawn0.refl _ | apply Drawn0.step)⟩
              · rw [if_neg c11] at H
                have c11b0 : decide (x9_2 < 64) = false := decide_eq_false c11
                clear c11
                simp only [Option.some.injEq, Prod.mk.injEq] at H
                obtain ⟨rfl, rfl⟩ := H
                go_wp2
                go_ret2
                exact ⟨by first | rfl | (simp; done) | (simp [*]; done), by repeat (first | exact Drawn0.refl _ | apply Drawn0.step)⟩

end Go.Proofs.YtoebcbhadcpcoaaDoor.PA
