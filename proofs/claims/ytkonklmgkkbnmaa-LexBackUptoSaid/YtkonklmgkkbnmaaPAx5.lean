/- Printed for this claim by a program of the session: contracts of Go functions: a call answers what its Lean function tells, wherever that tells something. -/
import Derived.Test.YtkonklmgkkbnmaaPAx0
import Derived.Test.YtkonklmgkkbnmaaPAx3
import Derived.Test.YtkonklmgkkbnmaaPAx4
namespace Go.Proofs.Ytkonklmgkkbnmaa.PA
open Go.RowKit Go.Proofs.YtkonklmgkkbnmaaW.PrintWords Go.Proofs.YtkonklmgkkbnmaaW.PrintLast Go.Proofs.YtkonklmgkkbnmaaW.PrintMore
attribute [local go_sem] max2_int min2_int max_two min_two max_three min_three max_four min_four   -- for this text's walks alone
set_option linter.unusedVariables false
set_option linter.unusedSimpArgs false

/-! ### cubitref09_Scan: function 9 -/
mutual
def cubitref09_Scan.l0 : Nat → ByteArray → List (S31) → Int → Option ((List (S31)) × Int × Int)
  | 0, _, _, _ => none
  | k + 1, x0, x5, x6 => if x6 < (x0.size : Int) then (if 0 ≤ x6 then ((cubitref09_blank.f (bt x0 x6)).bind fun t138 => (if t138 = true then (cubitref09_Scan.l0 k x0 x5 (wrap64 (x6 + 1))) else (if (bt x0 x6) = 35 then (cubitref09_Scan.l1 k x0 x5 x6) else ((cubitref09_letter.f (bt x0 x6)).bind fun t139 => (if t139 = true then (cubitref09_Scan.l2 k x0 x5 x6 x6) else ((cubitref09_digit.f (bt x0 x6)).bind fun t148 => (if t148 = true then (cubitref09_Scan.l3 k x0 x5 x6 x6) else ((cubitref09_isSign.f (bt x0 x6)).bind fun t157 => (if t157 = true then (if x6 ≤ (wrap64 (x6 + 1)) then (if (wrap64 (x6 + 1)) ≤ (x0.size : Int) then (if x5.length < 4398046511104 then (cubitref09_Scan.l0 k x0 (x5 ++ [(⟨3, x0.extract (x6 : Int).toNat ((wrap64 (x6 + 1)) : Int).toNat, x6⟩ : S31)]) (wrap64 (x6 + 1))) else (none)) else (none)) else (none)) else (some (([] : List (S31)), x6, 90))))))))))) else (none)) else (some (x5, 0, 0))
def cubitref09_Scan.l1 : Nat → ByteArray → List (S31) → Int → Option ((List (S31)) × Int × Int)
  | 0, _, _, _ => none
  | k + 1, x0, x5, x6 => if x6 < (x0.size : Int) then (if 0 ≤ x6 then (if (bt x0 x6) = 10 then (cubitref09_Scan.l0 k x0 x5 x6) else (cubitref09_Scan.l1 k x0 x5 (wrap64 (x6 + 1)))) else (none)) else (cubitref09_Scan.l0 k x0 x5 x6)
def cubitref09_Scan.l2 : Nat → ByteArray → List (S31) → Int → Int → Option ((List (S31)) × Int × Int)
  | 0, _, _, _, _ => none
  | k + 1, x0, x5, x6, x8 => if x6 < (x0.size : Int) then (if 0 ≤ x6 then ((cubitref09_letter.f (bt x0 x6)).bind fun t140 => (if t140 = true then (cubitref09_Scan.l2 k x0 x5 (wrap64 (x6 + 1)) x8) else ((cubitref09_digit.f (bt x0 x6)).bind fun t141 => (if t141 = true then (cubitref09_Scan.l2 k x0 x5 (wrap64 (x6 + 1)) x8) else (if 0 ≤ x8 then (if x8 ≤ x6 then (if x6 ≤ (x0.size : Int) then (if x5.length < 4398046511104 then (cubitref09_Scan.l0 k x0 (x5 ++ [(⟨1, x0.extract (x8 : Int).toNat (x6 : Int).toNat, x8⟩ : S31)]) x6) else (none)) else (none)) else (none)) else (none)))))) else (none)) else (if 0 ≤ x8 then (if x8 ≤ x6 then (if x6 ≤ (x0.size : Int) then (if x5.length < 4398046511104 then (cubitref09_Scan.l0 k x0 (x5 ++ [(⟨1, x0.extract (x8 : Int).toNat (x6 : Int).toNat, x8⟩ : S31)]) x6) else (none)) else (none)) else (none)) else (none))
def cubitref09_Scan.l3 : Nat → ByteArray → List (S31) → Int → Int → Option ((List (S31)) × Int × Int)
  | 0, _, _, _, _ => none
  | k + 1, x0, x5, x6, x8 => if x6 < (x0.size : Int) then (if 0 ≤ x6 then ((cubitref09_digit.f (bt x0 x6)).bind fun t149 => (if t149 = true then (cubitref09_Scan.l3 k x0 x5 (wrap64 (x6 + 1)) x8) else ((cubitref09_letter.f (bt x0 x6)).bind fun t150 => (if t150 = true then (some (([] : List (S31)), x6, 90)) else (if 0 ≤ x8 then (if x8 ≤ x6 then (if x6 ≤ (x0.size : Int) then (if x5.length < 4398046511104 then (cubitref09_Scan.l0 k x0 (x5 ++ [(⟨2, x0.extract (x8 : Int).toNat (x6 : Int).toNat, x8⟩ : S31)]) x6) else (none)) else (none)) else (none)) else (none)))))) else (none)) else (if 0 ≤ x8 then (if x8 ≤ x6 then (if x6 ≤ (x0.size : Int) then (if x5.length < 4398046511104 then (cubitref09_Scan.l0 k x0 (x5 ++ [(⟨2, x0.extract (x8 : Int).toNat (x6 : Int).toNat, x8⟩ : S31)]) x6) else (none)) else (none)) else (none)) else (none))
end
def cubitref09_Scan.f (k : Nat) (a0 : ByteArray) : Option ((List (S31)) × Int × Int) := if (a0.size : Int) > 65536 then (some (([] : List (S31)), 0, 1)) else (cubitref09_Scan.l0 k a0 ([] : List (S31)) 0)
theorem cubitref09_Scan.mono_l : ∀ k, (∀ y0 y1 y2, LeO (cubitref09_Scan.l0 k y0 y1 y2) (cubitref09_Scan.l0 (k + 1) y0 y1 y2)) ∧ (∀ y0 y1 y2, LeO (cubitref09_Scan.l1 k y0 y1 y2) (cubitref09_Scan.l1 (k + 1) y0 y1 y2)) ∧ (∀ y0 y1 y2 y3, LeO (cubitref09_Scan.l2 k y0 y1 y2 y3) (cubitref09_Scan.l2 (k + 1) y0 y1 y2 y3)) ∧ (∀ y0 y1 y2 y3, LeO (cubitref09_Scan.l3 k y0 y1 y2 y3) (cubitref09_Scan.l3 (k + 1) y0 y1 y2 y3))
  | 0 => ⟨fun _ _ _ r h => by simp [cubitref09_Scan.l0] at h, fun _ _ _ r h => by simp [cubitref09_Scan.l1] at h, fun _ _ _ _ r h => by simp [cubitref09_Scan.l2] at h, fun _ _ _ _ r h => by simp [cubitref09_Scan.l3] at h⟩
  | k + 1 => by
    obtain ⟨ih0, ih1, ih2, ih3⟩ := cubitref09_Scan.mono_l k
    refine ⟨?_, ?_, ?_, ?_⟩
    · intro y0 y1 y2
      unfold cubitref09_Scan.l0
      repeat' first
      | (with_reducible exact ih0 _ _ _)
      | (with_reducible exact ih1 _ _ _)
      | (with_reducible exact ih2 _ _ _ _)
      | (with_reducible exact ih3 _ _ _ _)
      | (with_reducible exact LeO.refl _)
      | (with_reducible exact LeO.none _)
      | (with_reducible refine LeO.ite ?_ ?_)
      | (with_reducible refine LeO.bind ?_ (fun _ => ?_))
      | exact ih0 _ _ _
      | exact ih1 _ _ _
      | exact ih2 _ _ _ _
      | exact ih3 _ _ _ _
      | exact LeO.none _
      | refine LeO.ite ?_ ?_
      | refine LeO.bind ?_ (fun _ => ?_)
    · intro y0 y1 y2
      unfold cubitref09_Scan.l1
      repeat' first
      | (with_reducible exact ih0 _ _ _)
      | (with_reducible exact ih1 _ _ _)
      | (with_reducible exact ih2 _ _ _ _)
      | (with_reducible exact ih3 _ _ _ _)
      | (with_reducible exact LeO.refl _)
      | (with_reducible exact LeO.none _)
      | (with_reducible refine LeO.ite ?_ ?_)
      | (with_reducible refine LeO.bind ?_ (fun _ => ?_))
      | exact ih0 _ _ _
      | exact ih1 _ _ _
      | exact ih2 _ _ _ _
      | exact ih3 _ _ _ _
      | exact LeO.none _
      | refine LeO.ite ?_ ?_
      | refine LeO.bind ?_ (fun _ => ?_)
    · intro y0 y1 y2 y3
      unfold cubitref09_Scan.l2
      repeat' first
      | (with_reducible exact ih0 _ _ _)
      | (with_reducible exact ih1 _ _ _)
      | (with_reducible exact ih2 _ _ _ _)
      | (with_reducible exact ih3 _ _ _ _)
      | (with_reducible exact LeO.refl _)
      | (with_reducible exact LeO.none _)
      | (with_reducible refine LeO.ite ?_ ?_)
      | (with_reducible refine LeO.bind ?_ (fun _ => ?_))
      | exact ih0 _ _ _
      | exact ih1 _ _ _
      | exact ih2 _ _ _ _
      | exact ih3 _ _ _ _
      | exact LeO.none _
      | refine LeO.ite ?_ ?_
      | refine LeO.bind ?_ (fun _ => ?_)
    · intro y0 y1 y2 y3
      unfold cubitref09_Scan.l3
      repeat' first
      | (with_reducible exact ih0 _ _ _)
      | (with_reducible exact ih1 _ _ _)
      | (with_reducible exact ih2 _ _ _ _)
      | (with_reducible exact ih3 _ _ _ _)
      | (with_reducible exact LeO.refl _)
      | (with_reducible exact LeO.none _)
      | (with_reducible refine LeO.ite ?_ ?_)
      | (with_reducible refine LeO.bind ?_ (fun _ => ?_))
      | exact ih0 _ _ _
      | exact ih1 _ _ _
      | exact ih2 _ _ _ _
      | exact ih3 _ _ _ _
      | exact LeO.none _
      | refine LeO.ite ?_ ?_
      | refine LeO.bind ?_ (fun _ => ?_)
theorem cubitref09_Scan.mono : ∀ a0 k, LeO (cubitref09_Scan.f k a0) (cubitref09_Scan.f (k + 1) a0) := by
  intro a0 k
  obtain ⟨ih0, ih1, ih2, ih3⟩ := cubitref09_Scan.mono_l k
  unfold cubitref09_Scan.f
  repeat' first
      | (with_reducible exact ih0 _ _ _)
      | (with_reducible exact ih1 _ _ _)
      | (with_reducible exact ih2 _ _ _ _)
      | (with_reducible exact ih3 _ _ _ _)
      | (with_reducible exact LeO.refl _)
      | (with_reducible exact LeO.none _)
      | (with_reducible refine LeO.ite ?_ ?_)
      | (with_reducible refine LeO.bind ?_ (fun _ => ?_))
      | exact ih0 _ _ _
      | exact ih1 _ _ _
      | exact ih2 _ _ _ _
      | exact ih3 _ _ _ _
      | exact LeO.none _
      | refine LeO.ite ?_ ?_
      | refine LeO.bind ?_ (fun _ => ?_)
set_option maxHeartbeats 8000000 in
set_option maxRecDepth 100000 in
theorem cubitref09_Scan.calls (k : Nat) (a0 : ByteArray) (r1 : List (S31)) (r2 : Int) (r3 : Int) (w : World) (h : cubitref09_Scan.f k a0 = some (r1, r2, r3)) :
    Calls Try.prog 9 #[.string a0] w fun e w' => ∃ v0_ : Value, e = .returned (.tuple #[v0_, .int .i64 r2, .int .i64 r3]) ∧ Kd.R k31 31 w' w.heap.size (fun _ => True) v0_ r1 ∧ Below w.heap.size w w' := by
  have hu31 := Try.underlying31
  have HB := Aside0.mk (Below.refl w.heap.size w)
  have H : (if (a0.size : Int) > 65536 then (some (([] : List (S31)), 0, 1)) else (cubitref09_Scan.l0 k a0 ([] : List (S31)) 0)) = some (r1, r2, r3) := h
  clear h
  by_cases c2 : (a0.size : Int) > 65536
  · rw [if_pos c2] at H
    have c2b0 : decide (65536 < (a0.size : Int)) = true := decide_eq_true c2
    have c2b1 : decide (65536 < a0.size) = true := decide_eq_true (by omega)
    clear c2
    simp only [Option.some.injEq, Prod.mk.injEq] at H
    obtain ⟨rfl, rfl, rfl⟩ := H
    go_enter Try.func9, Try.ntmps9
    go_wp2
    go_ret3
    exact ⟨_, by first | rfl | (simp [errW_none, errW_some] <;> rfl) | (simp [*, errW_none, errW_some] <;> rfl), by first | exact Kd.R_nil _ _ _ _ _ | exact Kd.N_nil _ _ _ _ _ | exact Kd.V_nil _ _ _ _ _ | exact Kd.Q_nil _ _ _ _ _ | exact Kd.S_nil _ _ _ _ _, by repeat (first | (with_reducible first | exact HB.out | apply below_alloc | apply pw_below_drewN | apply below_drew1) | exact HB.out)⟩
  · rw [if_neg c2] at H
    have c2b0 : decide (65536 < (a0.size : Int)) = false := decide_eq_false c2
    have c2b1 : decide (65536 < a0.size) = false := decide_eq_false (by omega)
    clear c2
    have H' := Aside0.mk H
    clear H
    go_enter Try.func9, Try.ntmps9
    go_wp2
    go_loopg [5, 6] k (fun kq v5 v6 w' => ∃ (x5_1 : List (S31)) (x6_1 : Int), v6 = .int .i64 x6_1 ∧ Aside0 (cubitref09_Scan.l0 kq a0 x5_1 x6_1 = some (r1, r2, r3)) ∧ Aside0 (kq ≤ k) ∧ Aside0 (Kd.R k31 31 w' w.heap.size (fun _ => True) v5 x5_1) ∧ Aside0 (Below w.heap.size w w'))
    case atStart => exact ⟨(([] : List (S31))), (0), (by first | rfl | (simp; done) | (simp [*]; done)), H', ⟨Nat.le_refl _⟩, ⟨by first | exact Kd.R_nil _ _ _ _ _ | exact Kd.N_nil _ _ _ _ _ | exact Kd.V_nil _ _ _ _ _ | exact Kd.Q_nil _ _ _ _ _ | exact Kd.S_nil _ _ _ _ _⟩, ⟨by repeat (first | (with_reducible first | exact HB.out | apply below_alloc | apply pw_below_drewN | apply below_drew1) | exact HB.out)⟩⟩
    case round =>
      clear H'
      try clear c2
      try clear c2b0
      try clear c2b1
      try clear p2
      obtain ⟨x5_1, x6_1, rfl, HA, HK1, HO_5, HB⟩ := hrel
      cases gk with
      | zero => exact absurd HA.out (by simp [cubitref09_Scan.l0])
      | succ k1 =>
        have H := HA.out
        clear HA
        simp only [cubitref09_Scan.l0] at H
        by_cases c3 : x6_1 < (a0.size : Int)
        · rw [if_pos c3] at H
          have c3b0 : decide (x6_1 < (a0.size : Int)) = true := decide_eq_true c3
          clear c3
          by_cases c4 : 0 ≤ x6_1
          · rw [if_pos c4] at H
            have c4b0 : decide (0 ≤ x6_1) = true := decide_eq_true c4
            clear c4
            replace H := Option.bind_eq_some_iff.mp H
            obtain ⟨t138, A60, H⟩ := H
            replace H : (if t138 = true then (cubitref09_Scan.l0 k1 a0 x5_1 (wrap64 (x6_1 + 1))) else (if (bt a0 x6_1) = 35 then (cubitref09_Scan.l1 k1 a0 x5_1 x6_1) else ((cubitref09_letter.f (bt a0 x6_1)).bind fun t139 => (if t139 = true then (cubitref09_Scan.l2 k1 a0 x5_1 x6_1 x6_1) else ((cubitref09_digit.f (bt a0 x6_1)).bind fun t148 => (if t148 = true then (cubitref09_Scan.l3 k1 a0 x5_1 x6_1 x6_1) else ((cubitref09_isSign.f (bt a0 x6_1)).bind fun t157 => (if t157 = true then (if x6_1 ≤ (wrap64 (x6_1 + 1)) then (if (wrap64 (x6_1 + 1)) ≤ (a0.size : Int) then (if x5_1.length < 4398046511104 then (cubitref09_Scan.l0 k1 a0 (x5_1 ++ [(⟨3, a0.extract (x6_1 : Int).toNat ((wrap64 (x6_1 + 1)) : Int).toNat, x6_1⟩ : S31)]) (wrap64 (x6_1 + 1))) else (none)) else (none)) else (none)) else (some (([] : List (S31)), x6_1, 90)))))))))) = some (r1, r2, r3) := H
            have A6 := Aside0.mk A60
            clear A60
            by_cases c7 : t138 = true
            · subst c7
              have H1 : (cubitref09_Scan.l0 k1 a0 x5_1 (wrap64 (x6_1 + 1))) = some (r1, r2, r3) := by rw [if_pos rfl] at H; exact H
              clear H
              have H := H1
              clear H1
              have H' := Aside0.mk H
              clear H
              have p5 : 0 ≤ (x6_1 : Int) := of_decide_eq_true (by first | (with_reducible assumption) | assumption)
              have q5 : x6_1 < (a0.size : Int) := of_decide_eq_true (by first | (with_reducible assumption) | assumption)
              have hx5 := bt_at a0 x6_1
              replace p5 := eq_true p5
              replace q5 := eq_true q5
              go_wp2_with (first | ((with_reducible refine gate_callee (f := 17) rfl ?_); refine goesL_ (some 23) rfl rfl Try.func17 (by kernel_rfl) rfl #[.int .u8 (bt a0 x6_1)] rfl (by (try simp only [List.map_toArray, List.map_cons, List.map_nil]); first | done | rfl | (simp only [List.length_drop, List.length_take]; rfl)) ?_; (with_reducible refine (cubitref09_blank.calls (bt a0 x6_1) true _ A6.out).mono ?_); rintro e w' ⟨rfl, ⟨nd, rfl⟩⟩; refine ⟨_, rfl, ?_⟩))
              go_roundg k1
              case measure => have := HK1.out; omega
              case rel => exact ⟨(x5_1), (wrap64 (x6_1 + 1)), (by first | rfl | (simp; done) | (simp [*]; done)), H', ⟨by have := HK1.out; omega⟩, ⟨by (with_reducible repeat (first | apply Kd.R_alloc | apply Kd.R_drewN | apply Kd.R_drew)); exact HO_5.out⟩, ⟨by repeat (first | (with_reducible first | exact HB.out | apply below_alloc | apply pw_below_drewN | apply below_drew1) | exact HB.out)⟩⟩
            · replace c7 := Bool.eq_false_iff.mpr c7
              subst c7
              have H1 : (if (bt a0 x6_1) = 35 then (cubitref09_Scan.l1 k1 a0 x5_1 x6_1) else ((cubitref09_letter.f (bt a0 x6_1)).bind fun t139 => (if t139 = true then (cubitref09_Scan.l2 k1 a0 x5_1 x6_1 x6_1) else ((cubitref09_digit.f (bt a0 x6_1)).bind fun t148 => (if t148 = true then (cubitref09_Scan.l3 k1 a0 x5_1 x6_1 x6_1) else ((cubitref09_isSign.f (bt a0 x6_1)).bind fun t157 => (if t157 = true then (if x6_1 ≤ (wrap64 (x6_1 + 1)) then (if (wrap64 (x6_1 + 1)) ≤ (a0.size : Int) then (if x5_1.length < 4398046511104 then (cubitref09_Scan.l0 k1 a0 (x5_1 ++ [(⟨3, a0.extract (x6_1 : Int).toNat ((wrap64 (x6_1 + 1)) : Int).toNat, x6_1⟩ : S31)]) (wrap64 (x6_1 + 1))) else (none)) else (none)) else (none)) else (some (([] : List (S31)), x6_1, 90))))))))) = some (r1, r2, r3) := by rw [if_neg (show ¬ (false = true) by decide)] at H; exact H
              clear H
              have H := H1
              clear H1
              by_cases c8 : (bt a0 x6_1) = 35
              · rw [if_pos c8] at H
                have c8b0 : ((bt a0 x6_1) == 35) = true := beq_iff_eq.mpr c8
                have c8b1 : ((bt a0 x6_1) != 35) = false := bne_eq_false_iff_eq.mpr c8
                clear c8
                have H' := Aside0.mk H
                clear H
                have p5 : 0 ≤ (x6_1 : Int) := of_decide_eq_true (by first | (with_reducible assumption) | assumption)
                have q5 : x6_1 < (a0.size : Int) := of_decide_eq_true (by first | (with_reducible assumption) | assumption)
                have hx5 := bt_at a0 x6_1
                replace p5 := eq_true p5
                replace q5 := eq_true q5
                go_wp2_with (first | ((with_reducible refine gate_callee (f := 17) rfl ?_); refine goesL_ (some 23) rfl rfl Try.func17 (by kernel_rfl) rfl #[.int .u8 (bt a0 x6_1)] rfl (by (try simp only [List.map_toArray, List.map_cons, List.map_nil]); first | done | rfl | (simp only [List.length_drop, List.length_take]; rfl)) ?_; (with_reducible refine (cubitref09_blank.calls (bt a0 x6_1) false _ A6.out).mono ?_); rintro e w' ⟨rfl, ⟨nd, rfl⟩⟩; refine ⟨_, rfl, ?_⟩))
                go_loopg [6] k1 (fun kq v6 w' => ∃ (x6_2 : Int), v6 = .int .i64 x6_2 ∧ Aside0 (cubitref09_Scan.l1 kq a0 x5_1 x6_2 = some (r1, r2, r3)) ∧ Aside0 (kq ≤ k1) ∧ Aside0 (Kd.R k31 31 w' w.heap.size (fun _ => True) u5 x5_1) ∧ Aside0 (Below w.heap.size w w'))
                case atStart => exact ⟨(x6_1), (by first | rfl | (simp; done) | (simp [*]; done)), H', ⟨Nat.le_refl _⟩, ⟨by (with_reducible repeat (first | apply Kd.R_alloc | apply Kd.R_drewN | apply Kd.R_drew)); exact HO_5.out⟩, ⟨by repeat (first | (with_reducible first | exact HB.out | apply below_alloc | apply pw_below_drewN | apply below_drew1) | exact HB.out)⟩⟩
                case round =>
                  clear H'
                  try clear c1
                  try clear c2
                  try clear c2b0
                  try clear c2b1
                  try clear p2
                  try clear c3
                  try clear c3b0
                  try clear c4
                  try clear c4b0
                  try clear p5
                  try clear q5
                  try clear hx5
                  try clear p6
                  try clear c7
                  try clear c8
                  try clear c8b0
                  try clear c8b1
                  try clear p2
                  try clear p5
                  try clear q5
                  obtain ⟨x6_2, rfl, HA, HK2, HO_5, HB⟩ := hrel
                  cases gk with
                  | zero => exact absurd HA.out (by simp [cubitref09_Scan.l1])
                  | succ k2 =>
                    have H := HA.out
                    clear HA
                    simp only [cubitref09_Scan.l1] at H
                    by_cases c9 : x6_2 < (a0.size : Int)
                    · rw [if_pos c9] at H
                      have c9b0 : decide (x6_2 < (a0.size : Int)) = true := decide_eq_true c9
                      clear c9
                      by_cases c10 : 0 ≤ x6_2
                      · rw [if_pos c10] at H
                        have c10b0 : decide (0 ≤ x6_2) = true := decide_eq_true c10
                        clear c10
                        by_cases c12 : (bt a0 x6_2) = 10
                        · rw [if_pos c12] at H
                          have c12b0 : ((bt a0 x6_2) == 10) = true := beq_iff_eq.mpr c12
                          have c12b1 : ((bt a0 x6_2) != 10) = false := bne_eq_false_iff_eq.mpr c12
                          clear c12
                          have H' := Aside0.mk H
                          clear H
                          have p11 : 0 ≤ (x6_2 : Int) := of_decide_eq_true (by first | (with_reducible assumption) | assumption)
                          have q11 : x6_2 < (a0.size : Int) := of_decide_eq_true (by first | (with_reducible assumption) | assumption)
                          have hx11 := bt_at a0 x6_2
                          replace p11 := eq_true p11
                          replace q11 := eq_true q11
                          go_wp2
                          go_roundg k2
                          case measure => have := HK1.out; have := HK2.out; omega
                          case rel => exact ⟨(x5_1), (x6_2), (by first | rfl | (simp; done) | (simp [*]; done)), H', ⟨by have := HK1.out; have := HK2.out; omega⟩, ⟨by (with_reducible repeat (first | apply Kd.R_alloc | apply Kd.R_drewN | apply Kd.R_drew)); exact HO_5.out⟩, ⟨by repeat (first | (with_reducible first | exact HB.out | apply below_alloc | apply pw_below_drewN | apply below_drew1) | exact HB.out)⟩⟩
                        · rw [if_neg c12] at H
                          have c12b0 : ((bt a0 x6_2) == 10) = false := beq_eq_false_iff_ne.mpr c12
                          have c12b1 : ((bt a0 x6_2) != 10) = true := bne_iff_ne.mpr c12
                          have H' := Aside0.mk H
                          clear H
                          have p11 : 0 ≤ (x6_2 : Int) := of_decide_eq_true (by first | (with_reducible assumption) | assumption)
                          have q11 : x6_2 < (a0.size : Int) := of_decide_eq_true (by first | (with_reducible assumption) | assumption)
                          have hx11 := bt_at a0 x6_2
                          replace p11 := eq_true p11
                          replace q11 := eq_true q11
                          go_wp2
                          go_roundg k2
                          case measure => have := HK1.out; have := HK2.out; omega
                          case rel => exact ⟨(wrap64 (x6_2 + 1)), (by first | rfl | (simp; done) | (simp [*]; done)), H', ⟨by have := HK1.out; have := HK2.out; omega⟩, ⟨by (with_reducible repeat (first | apply Kd.R_alloc | apply Kd.R_drewN | apply Kd.R_drew)); exact HO_5.out⟩, ⟨by repeat (first | (with_reducible first | exact HB.out | apply below_alloc | apply pw_below_drewN | apply below_drew1) | exact HB.out)⟩⟩
                      · rw [if_neg c10] at H
                        exact absurd H (by simp)
                    · rw [if_neg c9] at H
                      have c9b0 : decide (x6_2 < (a0.size : Int)) = false := decide_eq_false c9
                      clear c9
                      have H' := Aside0.mk H
                      clear H
                      go_wp2
                      go_roundg k2
                      case measure => have := HK1.out; have := HK2.out; omega
                      case rel => exact ⟨(x5_1), (x6_2), (by first | rfl | (simp; done) | (simp [*]; done)), H', ⟨by have := HK1.out; have := HK2.out; omega⟩, ⟨by (with_reducible repeat (first | apply Kd.R_alloc | apply Kd.R_drewN | apply Kd.R_drew)); exact HO_5.out⟩, ⟨by repeat (first | (with_reducible first | exact HB.out | apply below_alloc | apply pw_below_drewN | apply below_drew1) | exact HB.out)⟩⟩
              · rw [if_neg c8] at H
                have c8b0 : ((bt a0 x6_1) == 35) = false := beq_eq_false_iff_ne.mpr c8
                have c8b1 : ((bt a0 x6_1) != 35) = true := bne_iff_ne.mpr c8
                replace H := Option.bind_eq_some_iff.mp H
                obtain ⟨t139, A130, H⟩ := H
                replace H : (if t139 = true then (cubitref09_Scan.l2 k1 a0 x5_1 x6_1 x6_1) else ((cubitref09_digit.f (bt a0 x6_1)).bind fun t148 => (if t148 = true then (cubitref09_Scan.l3 k1 a0 x5_1 x6_1 x6_1) else ((cubitref09_isSign.f (bt a0 x6_1)).bind fun t157 => (if t157 = true then (if x6_1 ≤ (wrap64 (x6_1 + 1)) then (if (wrap64 (x6_1 + 1)) ≤ (a0.size : Int) then (if x5_1.length < 4398046511104 then (cubitref09_Scan.l0 k1 a0 (x5_1 ++ [(⟨3, a0.extract (x6_1 : Int).toNat ((wrap64 (x6_1 + 1)) : Int).toNat, x6_1⟩ : S31)]) (wrap64 (x6_1 + 1))) else (none)) else (none)) else (none)) else (some (([] : List (S31)), x6_1, 90))))))) = some (r1, r2, r3) := H
                have A13 := Aside0.mk A130
                clear A130
                by_cases c14 : t139 = true
                · subst c14
                  have H1 : (cubitref09_Scan.l2 k1 a0 x5_1 x6_1 x6_1) = some (r1, r2, r3) := by rw [if_pos rfl] at H; exact H
                  clear H
                  have H := H1
                  clear H1
                  have H' := Aside0.mk H
                  clear H
                  have p5 : 0 ≤ (x6_1 : Int) := of_decide_eq_true (by first | (with_reducible assumption) | assumption)
                  have q5 : x6_1 < (a0.size : Int) := of_decide_eq_true (by first | (with_reducible assumption) | assumption)
                  have hx5 := bt_at a0 x6_1
                  replace p5 := eq_true p5
                  replace q5 := eq_true q5
                  go_wp2_with (first | ((with_reducible refine gate_callee (f := 17) rfl ?_); refine goesL_ (some 23) rfl rfl Try.func17 (by kernel_rfl) rfl #[.int .u8 (bt a0 x6_1)] rfl (by (try simp only [List.map_toArray, List.map_cons, List.map_nil]); first | done | rfl | (simp only [List.length_drop, List.length_take]; rfl)) ?_; (with_reducible refine (cubitref09_blank.calls (bt a0 x6_1) false _ A6.out).mono ?_); rintro e w' ⟨rfl, ⟨nd, rfl⟩⟩; refine ⟨_, rfl, ?_⟩) | ((with_reducible refine gate_callee (f := 18) rfl ?_); refine goesL_ (some 43) rfl rfl Try.func18 (by kernel_rfl) rfl #[.int .u8 (bt a0 x6_1)] rfl (by (try simp only [List.map_toArray, List.map_cons, List.map_nil]); first | done | rfl | (simp only [List.length_drop, List.length_take]; rfl)) ?_; (with_reducible refine (cubitref09_letter.calls (bt a0 x6_1) true _ A13.out).mono ?_); rintro e w' ⟨rfl, ⟨nd, rfl⟩⟩; refine ⟨_, rfl, ?_⟩))
                  go_loopg [6] k1 (fun kq v6 w' => ∃ (x6_2 : Int), v6 = .int .i64 x6_2 ∧ Aside0 (cubitref09_Scan.l2 kq a0 x5_1 x6_2 x6_1 = some (r1, r2, r3)) ∧ Aside0 (kq ≤ k1) ∧ Aside0 (Kd.R k31 31 w' w.heap.size (fun _ => True) u5 x5_1) ∧ Aside0 (Below w.heap.size w w'))
                  case atStart => exact ⟨(x6_1), (by first | rfl | (simp; done) | (simp [*]; done)), H', ⟨Nat.le_refl _⟩, ⟨by (with_reducible repeat (first | apply Kd.R_alloc | apply Kd.R_drewN | apply Kd.R_drew)); exact HO_5.out⟩, ⟨by repeat (first | (with_reducible first | exact HB.out | apply below_alloc | apply pw_below_drewN | apply below_drew1) | exact HB.out)⟩⟩
                  case round =>
                    clear H'
                    try clear c1
                    try clear p1
                    try clear q1
                    try clear hx1
                    try clear c2
                    try clear c2b0
                    try clear c2b1
                    try clear p2
                    try clear c3
                    try clear c3b0
                    try clear c4
                    try clear c4b0
                    try clear p5
                    try clear q5
                    try clear hx5
                    try clear p6
                    try clear c7
                    try clear c8
                    try clear c8b0
                    try clear c8b1
                    try clear c9
                    try clear c9b0
                    try clear c10
                    try clear c10b0
                    try clear p11
                    try clear q11
                    try clear hx11
                    try clear c12
                    try clear c12b0
                    try clear c12b1
                    try clear c14
                    try clear p11
                    try clear p2
                    try clear p5
                    try clear p6
                    try clear q11
                    try clear q5
                    obtain ⟨x6_2, rfl, HA, HK2, HO_5, HB⟩ := hrel
                    cases gk with
                    | zero => exact absurd HA.out (by simp [cubitref09_Scan.l2])
                    | succ k2 =>
                      have H := HA.out
                      clear HA
                      simp only [cubitref09_Scan.l2] at H
                      by_cases c15 : x6_2 < (a0.size : Int)
                      · rw [if_pos c15] at H
                        have c15b0 : decide (x6_2 < (a0.size : Int)) = true := decide_eq_true c15
                        clear c15
                        by_cases c16 : 0 ≤ x6_2
                        · rw [if_pos c16] at H
                          have c16b0 : decide (0 ≤ x6_2) = true := decide_eq_true c16
                          clear c16
                          replace H := Option.bind_eq_some_iff.mp H
                          obtain ⟨t140, A180, H⟩ := H
                          replace H : (if t140 = true then (cubitref09_Scan.l2 k2 a0 x5_1 (wrap64 (x6_2 + 1)) x6_1) else ((cubitref09_digit.f (bt a0 x6_2)).bind fun t141 => (if t141 = true then (cubitref09_Scan.l2 k2 a0 x5_1 (wrap64 (x6_2 + 1)) x6_1) else (if 0 ≤ x6_1 then (if x6_1 ≤ x6_2 then (if x6_2 ≤ (a0.size : Int) then (if x5_1.length < 4398046511104 then (cubitref09_Scan.l0 k2 a0 (x5_1 ++ [(⟨1, a0.extract (x6_1 : Int).toNat (x6_2 : Int).toNat, x6_1⟩ : S31)]) x6_2) else (none)) else (none)) else (none)) else (none))))) = some (r1, r2, r3) := H
                          have A18 := Aside0.mk A180
                          clear A180
                          by_cases c19 : t140 = true
                          · subst c19
                            have H1 : (cubitref09_Scan.l2 k2 a0 x5_1 (wrap64 (x6_2 + 1)) x6_1) = some (r1, r2, r3) := by rw [if_pos rfl] at H; exact H
                            clear H
                            have H := H1
                            clear H1
                            have H' := Aside0.mk H
                            clear H
                            have p17 : 0 ≤ (x6_2 : Int) := of_decide_eq_true (by first | (with_reducible assumption) | assumption)
                            have q17 : x6_2 < (a0.size : Int) := of_decide_eq_true (by first | (with_reducible assumption) | assumption)
                            have hx17 := bt_at a0 x6_2
                            replace p17 := eq_true p17
                            replace q17 := eq_true q17
                            go_wp2_with (first | (go_at_call 18; (with_reducible refine (cubitref09_letter.calls (bt a0 x6_2) true _ A18.out).mono ?_); rintro e w' ⟨rfl, ⟨nd, rfl⟩⟩))
                            go_roundg k2
                            case measure => have := HK1.out; have := HK2.out; omega
                            case rel => exact ⟨(wrap64 (x6_2 + 1)), (by first | rfl | (simp; done) | (simp [*]; done)), H', ⟨by have := HK1.out; have := HK2.out; omega⟩, ⟨by (with_reducible repeat (first | apply Kd.R_alloc | apply Kd.R_drewN | apply Kd.R_drew)); exact HO_5.out⟩, ⟨by repeat (first | (with_reducible first | exact HB.out | apply below_alloc | apply pw_below_drewN | apply below_drew1) | exact HB.out)⟩⟩
                          · replace c19 := Bool.eq_false_iff.mpr c19
                            subst c19
                            have H1 : ((cubitref09_digit.f (bt a0 x6_2)).bind fun t141 => (if t141 = true then (cubitref09_Scan.l2 k2 a0 x5_1 (wrap64 (x6_2 + 1)) x6_1) else (if 0 ≤ x6_1 then (if x6_1 ≤ x6_2 then (if x6_2 ≤ (a0.size : Int) then (if x5_1.length < 4398046511104 then (cubitref09_Scan.l0 k2 a0 (x5_1 ++ [(⟨1, a0.extract (x6_1 : Int).toNat (x6_2 : Int).toNat, x6_1⟩ : S31)]) x6_2) else (none)) else (none)) else (none)) else (none)))) = some (r1, r2, r3) := by rw [if_neg (show ¬ (false = true) by decide)] at H; exact H
                            clear H
                            have H := H1
                            clear H1
                            replace H := Option.bind_eq_some_iff.mp H
                            obtain ⟨t141, A210, H⟩ := H
                            replace H : (if t141 = true then (cubitref09_Scan.l2 k2 a0 x5_1 (wrap64 (x6_2 + 1)) x6_1) else (if 0 ≤ x6_1 then (if x6_1 ≤ x6_2 then (if x6_2 ≤ (a0.size : Int) then (if x5_1.length < 4398046511104 then (cubitref09_Scan.l0 k2 a0 (x5_1 ++ [(⟨1, a0.extract (x6_1 : Int).toNat (x6_2 : Int).toNat, x6_1⟩ : S31)]) x6_2) else (none)) else (none)) else (none)) else (none))) = some (r1, r2, r3) := H
                            have A21 := Aside0.mk A210
                            clear A210
                            by_cases c22 : t141 = true
                            · subst c22
                              have H1 : (cubitref09_Scan.l2 k2 a0 x5_1 (wrap64 (x6_2 + 1)) x6_1) = some (r1, r2, r3) := by rw [if_pos rfl] at H; exact H
                              clear H
                              have H := H1
                              clear H1
                              have H' := Aside0.mk H
                              clear H
                              have p17 : 0 ≤ (x6_2 : Int) := of_decide_eq_true (by first | (with_reducible assumption) | assumption)
                              have q17 : x6_2 < (a0.size : Int) := of_decide_eq_true (by first | (with_reducible assumption) | assumption)
                              have hx17 := bt_at a0 x6_2
                              replace p17 := eq_true p17
                              replace q17 := eq_true q17
                              go_wp2_with (first | (go_at_call 18; (with_reducible refine (cubitref09_letter.calls (bt a0 x6_2) false _ A18.out).mono ?_); rintro e w' ⟨rfl, ⟨nd, rfl⟩⟩; have p20 : 0 ≤ (x6_2 : Int) := of_decide_eq_true (by first | (with_reducible assumption) | assumption); have q20 : x6_2 < (a0.size : Int) := of_decide_eq_true (by first | (with_reducible assumption) | assumption); have hx20 := bt_at a0 x6_2; replace p20 := eq_true p20; replace q20 := eq_true q20) | (go_at_call 19; (with_reducible refine (cubitref09_digit.calls (bt a0 x6_2) true _ A21.out).mono ?_); rintro e w' ⟨rfl, ⟨nd, rfl⟩⟩))
                              go_roundg k2
                              case measure => have := HK1.out; have := HK2.out; omega
                              case rel => exact ⟨(wrap64 (x6_2 + 1)), (by first | rfl | (simp; done) | (simp [*]; done)), H', ⟨by have := HK1.out; have := HK2.out; omega⟩, ⟨by (with_reducible repeat (first | apply Kd.R_alloc | apply Kd.R_drewN | apply Kd.R_drew)); exact HO_5.out⟩, ⟨by repeat (first | (with_reducible first | exact HB.out | apply below_alloc | apply pw_below_drewN | apply below_drew1) | exact HB.out)⟩⟩
                            · replace c22 := Bool.eq_false_iff.mpr c22
                              subst c22
                              have H1 : (if 0 ≤ x6_1 then (if x6_1 ≤ x6_2 then (if x6_2 ≤ (a0.size : Int) then (if x5_1.length < 4398046511104 then (cubitref09_Scan.l0 k2 a0 (x5_1 ++ [(⟨1, a0.extract (x6_1 : Int).toNat (x6_2 : Int).toNat, x6_1⟩ : S31)]) x6_2) else (none)) else (none)) else (none)) else (none)) = some (r1, r2, r3) := by rw [if_neg (show ¬ (false = true) by decide)] at H; exact H
                              clear H
                              have H := H1
                              clear H1
                              by_cases c23 : 0 ≤ x6_1
                              · rw [if_pos c23] at H
                                have c23b0 := eq_true c23
                                have c23b1 : decide (0 ≤ x6_1) = true := decide_eq_true c23
                                clear c23
                                by_cases c24 : x6_1 ≤ x6_2
                                · rw [if_pos c24] at H
                                  have c24b0 := eq_true c24
                                  have c24b1 : decide (x6_1 ≤ x6_2) = true := decide_eq_true c24
                                  clear c24
                                  by_cases c25 : x6_2 ≤ (a0.size : Int)
                                  · rw [if_pos c25] at H
                                    have c25b0 := eq_true c25
                                    have c25b1 : decide (x6_2 ≤ (a0.size : Int)) = true := decide_eq_true c25
                                    clear c25
                                    by_cases c26 : x5_1.length < 4398046511104
                                    · rw [if_pos c26] at H
                                      have LMc26 := Aside0.mk c26
                                      clear c26
                                      obtain ⟨y142, hy142⟩ : ∃ y_ : List (S31), y_ = (x5_1 ++ [(⟨1, a0.extract (x6_1 : Int).toNat (x6_2 : Int).toNat, x6_1⟩ : S31)]) := ⟨_, rfl⟩
                                      replace H : (cubitref09_Scan.l0 k2 a0 y142 x6_2) = some (r1, r2, r3) := by first | (rw [hy142]; with_reducible exact H) | (have H2_ := (Option.bind_some _ _).symm.trans H; rw [hy142]; with_reducible exact H2_) | (have H2_ := (Option.bind_some _ _).symm.trans H; with_reducible exact H2_) | with_reducible exact H | (rw [hy142]; exact H) | exact H
                                      have Ny142 := Aside0.mk hy142
                                      clear hy142
                                      have H' := Aside0.mk H
                                      clear H
                                      have p17 : 0 ≤ (x6_2 : Int) := of_decide_eq_true (by first | (with_reducible assumption) | assumption)
                                      have q17 : x6_2 < (a0.size : Int) := of_decide_eq_true (by first | (with_reducible assumption) | assumption)
                                      have hx17 := bt_at a0 x6_2
                                      replace p17 := eq_true p17
                                      replace q17 := eq_true q17
                                      go_wp2_with (first | (go_at_call 18; (with_reducible refine (cubitref09_letter.calls (bt a0 x6_2) false _ A18.out).mono ?_); rintro e w' ⟨rfl, ⟨nd, rfl⟩⟩; have p20 : 0 ≤ (x6_2 : Int) := of_decide_eq_true (by first | (with_reducible assumption) | assumption); have q20 : x6_2 < (a0.size : Int) := of_decide_eq_true (by first | (with_reducible assumption) | assumption); have hx20 := bt_at a0 x6_2; replace p20 := eq_true p20; replace q20 := eq_true q20) | (go_at_call 19; (with_reducible refine (cubitref09_digit.calls (bt a0 x6_2) false _ A21.out).mono ?_); rintro e w' ⟨rfl, ⟨nd, rfl⟩⟩) | ((with_reducible refine gate_builtin (b := .append) (xs := #[.tmp 62, .tmp 69]) rfl ?_); at_builtin; refine Kd.R_append k31 (w0 := w) w.heap.size rfl (.tmp 62) (.tmp 69) 23 31 (.agg #[(.int .i64 0), (.string ⟨#[]⟩), (.int .i64 0)]) 32 rfl Try.underlying23 info31 rfl (by decide) (by omega) u5 x5_1 (⟨1, a0.extract (x6_1 : Int).toNat (x6_2 : Int).toNat, x6_1⟩ : S31) [.int .i64 1, .string (a0.extract (x6_1 : Int).toNat (x6_2 : Int).toNat), .int .i64 x6_1] (fun _ => True) (fun _ => False) rfl rfl ?aP (fun _ hk => hk.elim) ?aF ?aO ?aB ?aS ?aL ?_; (case aP => exact k31_mkM _ _ _ (⟨1, a0.extract (x6_1 : Int).toNat (x6_2 : Int).toNat, x6_1⟩ : S31)); (case aB => exact (by repeat (first | (with_reducible first | exact HB.out | apply below_alloc | apply pw_below_drewN | apply below_drew1) | exact HB.out))); (case aF => exact (fun _ _ => trivial)); (case aO => exact (by (with_reducible repeat (first | apply Kd.R_alloc | apply Kd.R_drewN | apply Kd.R_drew)); exact HO_5.out)); (case aS => exact (below_size (by repeat (first | (with_reducible first | exact HB.out | apply below_alloc | apply pw_below_drewN | apply below_drew1) | exact HB.out)))); (case aL => have := LMc26.out; omega); intro v143 w27 ho hb hg hat; rw [← Ny142.out] at ho; have n0_ := Aside0.mk (hb); have n1_ := Aside0.mk (ho); clear HB; clear HO_5; have HB := n0_; have HO144 := n1_; clear n0_ n1_; clear ho hb hg hat))
                                      go_roundg k2
                                      case measure => have := HK1.out; have := HK2.out; omega
                                      case rel => exact ⟨(y142), (x6_2), (by first | rfl | (simp; done) | (simp [*]; done)), H', ⟨by have := HK1.out; have := HK2.out; omega⟩, ⟨by (with_reducible repeat (first | apply Kd.R_alloc | apply Kd.R_drewN | apply Kd.R_drew)); exact HO144.out⟩, ⟨by repeat (first | (with_reducible first | exact HB.out | apply below_alloc | apply pw_below_drewN | apply below_drew1) | exact HB.out)⟩⟩
                                    · rw [if_neg c26] at H
                                      exact absurd H (by simp)
                                  · rw [if_neg c25] at H
                                    exact absurd H (by simp)
                                · rw [if_neg c24] at H
                                  exact absurd H (by simp)
                              · rw [if_neg c23] at H
                                exact absurd H (by simp)
                        · rw [if_neg c16] at H
                          exact absurd H (by simp)
                      · rw [if_neg c15] at H
                        have c15b0 : decide (x6_2 < (a0.size : Int)) = false := decide_eq_false c15
                        clear c15
                        by_cases c28 : 0 ≤ x6_1
                        · rw [if_pos c28] at H
                          have c28b0 := eq_true c28
                          have c28b1 : decide (0 ≤ x6_1) = true := decide_eq_true c28
                          clear c28
                          by_cases c29 : x6_1 ≤ x6_2
                          · rw [if_pos c29] at H
                            have c29b0 := eq_true c29
                            have c29b1 : decide (x6_1 ≤ x6_2) = true := decide_eq_true c29
                            clear c29
                            by_cases c30 : x6_2 ≤ (a0.size : Int)
                            · rw [if_pos c30] at H
                              have c30b0 := eq_true c30
                              have c30b1 : decide (x6_2 ≤ (a0.size : Int)) = true := decide_eq_true c30
                              clear c30
                              by_cases c31 : x5_1.length < 4398046511104
                              · rw [if_pos c31] at H
                                have LMc31 := Aside0.mk c31
                                clear c31
                                obtain ⟨y145, hy145⟩ : ∃ y_ : List (S31), y_ = (x5_1 ++ [(⟨1, a0.extract (x6_1 : Int).toNat (x6_2 : Int).toNat, x6_1⟩ : S31)]) := ⟨_, rfl⟩
                                replace H : (cubitref09_Scan.l0 k2 a0 y145 x6_2) = some (r1, r2, r3) := by first | (rw [hy145]; with_reducible exact H) | (have H2_ := (Option.bind_some _ _).symm.trans H; rw [hy145]; with_reducible exact H2_) | (have H2_ := (Option.bind_some _ _).symm.trans H; with_reducible exact H2_) | with_reducible exact H | (rw [hy145]; exact H) | exact H
                                have Ny145 := Aside0.mk hy145
                                clear hy145
                                have H' := Aside0.mk H
                                clear H
                                go_wp2_with (first | ((with_reducible refine gate_builtin (b := .append) (xs := #[.tmp 62, .tmp 69]) rfl ?_); at_builtin; refine Kd.R_append k31 (w0 := w) w.heap.size rfl (.tmp 62) (.tmp 69) 23 31 (.agg #[(.int .i64 0), (.string ⟨#[]⟩), (.int .i64 0)]) 32 rfl Try.underlying23 info31 rfl (by decide) (by omega) u5 x5_1 (⟨1, a0.extract (x6_1 : Int).toNat (x6_2 : Int).toNat, x6_1⟩ : S31) [.int .i64 1, .string (a0.extract (x6_1 : Int).toNat (x6_2 : Int).toNat), .int .i64 x6_1] (fun _ => True) (fun _ => False) rfl rfl ?aP (fun _ hk => hk.elim) ?aF ?aO ?aB ?aS ?aL ?_; (case aP => exact k31_mkM _ _ _ (⟨1, a0.extract (x6_1 : Int).toNat (x6_2 : Int).toNat, x6_1⟩ : S31)); (case aB => exact (by repeat (first | (with_reducible first | exact HB.out | apply below_alloc | apply pw_below_drewN | apply below_drew1) | exact HB.out))); (case aF => exact (fun _ _ => trivial)); (case aO => exact (by (with_reducible repeat (first | apply Kd.R_alloc | apply Kd.R_drewN | apply Kd.R_drew)); exact HO_5.out)); (case aS => exact (below_size (by repeat (first | (with_reducible first | exact HB.out | apply below_alloc | apply pw_below_drewN | apply below_drew1) | exact HB.out)))); (case aL => have := LMc31.out; omega); intro v146 w32 ho hb hg hat; rw [← Ny145.out] at ho; have n0_ := Aside0.mk (hb); have n1_ := Aside0.mk (ho); clear HB; clear HO_5; have HB := n0_; have HO147 := n1_; clear n0_ n1_; clear ho hb hg hat))
                                go_roundg k2
                                case measure => have := HK1.out; have := HK2.out; omega
                                case rel => exact ⟨(y145), (x6_2), (by first | rfl | (simp; done) | (simp [*]; done)), H', ⟨by have := HK1.out; have := HK2.out; omega⟩, ⟨by (with_reducible repeat (first | apply Kd.R_alloc | apply Kd.R_drewN | apply Kd.R_drew)); exact HO147.out⟩, ⟨by repeat (first | (with_reducible first | exact HB.out | apply below_alloc | apply pw_below_drewN | apply below_drew1) | exact HB.out)⟩⟩
                              · rw [if_neg c31] at H
                                exact absurd H (by simp)
                            · rw [if_neg c30] at H
                              exact absurd H (by simp)
                          · rw [if_neg c29] at H
                            exact absurd H (by simp)
                        · rw [if_neg c28] at H
                          exact absurd H (by simp)
                · replace c14 := Bool.eq_false_iff.mpr c14
                  subst c14
                  have H1 : ((cubitref09_digit.f (bt a0 x6_1)).bind fun t148 => (if t148 = true then (cubitref09_Scan.l3 k1 a0 x5_1 x6_1 x6_1) else ((cubitref09_isSign.f (bt a0 x6_1)).bind fun t157 => (if t157 = true then (if x6_1 ≤ (wrap64 (x6_1 + 1)) then (if (wrap64 (x6_1 + 1)) ≤ (a0.size : Int) then (if x5_1.length < 4398046511104 then (cubitref09_Scan.l0 k1 a0 (x5_1 ++ [(⟨3, a0.extract (x6_1 : Int).toNat ((wrap64 (x6_1 + 1)) : Int).toNat, x6_1⟩ : S31)]) (wrap64 (x6_1 + 1))) else (none)) else (none)) else (none)) else (some (([] : List (S31)), x6_1, 90)))))) = some (r1, r2, r3) := by rw [if_neg (show ¬ (false = true) by decide)] at H; exact H
                  clear H
                  have H := H1
                  clear H1
                  replace H := Option.bind_eq_some_iff.mp H
                  obtain ⟨t148, A330, H⟩ := H
                  replace H : (if t148 = true then (cubitref09_Scan.l3 k1 a0 x5_1 x6_1 x6_1) else ((cubitref09_isSign.f (bt a0 x6_1)).bind fun t157 => (if t157 = true then (if x6_1 ≤ (wrap64 (x6_1 + 1)) then (if (wrap64 (x6_1 + 1)) ≤ (a0.size : Int) then (if x5_1.length < 4398046511104 then (cubitref09_Scan.l0 k1 a0 (x5_1 ++ [(⟨3, a0.extract (x6_1 : Int).toNat ((wrap64 (x6_1 + 1)) : Int).toNat, x6_1⟩ : S31)]) (wrap64 (x6_1 + 1))) else (none)) else (none)) else (none)) else (some (([] : List (S31)), x6_1, 90))))) = some (r1, r2, r3) := H
                  have A33 := Aside0.mk A330
                  clear A330
                  by_cases c34 : t148 = true
                  · subst c34
                    have H1 : (cubitref09_Scan.l3 k1 a0 x5_1 x6_1 x6_1) = some (r1, r2, r3) := by rw [if_pos rfl] at H; exact H
                    clear H
                    have H := H1
                    clear H1
                    have H' := Aside0.mk H
                    clear H
                    have p5 : 0 ≤ (x6_1 : Int) := of_decide_eq_true (by first | (with_reducible assumption) | assumption)
                    have q5 : x6_1 < (a0.size : Int) := of_decide_eq_true (by first | (with_reducible assumption) | assumption)
                    have hx5 := bt_at a0 x6_1
                    replace p5 := eq_true p5
                    replace q5 := eq_true q5
                    go_wp2_with (first | ((with_reducible refine gate_callee (f := 17) rfl ?_); refine goesL_ (some 23) rfl rfl Try.func17 (by kernel_rfl) rfl #[.int .u8 (bt a0 x6_1)] rfl (by (try simp only [List.map_toArray, List.map_cons, List.map_nil]); first | done | rfl | (simp only [List.length_drop, List.length_take]; rfl)) ?_; (with_reducible refine (cubitref09_blank.calls (bt a0 x6_1) false _ A6.out).mono ?_); rintro e w' ⟨rfl, ⟨nd, rfl⟩⟩; refine ⟨_, rfl, ?_⟩) | ((with_reducible refine gate_callee (f := 18) rfl ?_); refine goesL_ (some 43) rfl rfl Try.func18 (by kernel_rfl) rfl #[.int .u8 (bt a0 x6_1)] rfl (by (try simp only [List.map_toArray, List.map_cons, List.map_nil]); first | done | rfl | (simp only [List.length_drop, List.length_take]; rfl)) ?_; (with_reducible refine (cubitref09_letter.calls (bt a0 x6_1) false _ A13.out).mono ?_); rintro e w' ⟨rfl, ⟨nd, rfl⟩⟩; refine ⟨_, rfl, ?_⟩) | ((with_reducible refine gate_callee (f := 19) rfl ?_); refine goesL_ (some 73) rfl rfl Try.func19 (by kernel_rfl) rfl #[.int .u8 (bt a0 x6_1)] rfl (by (try simp only [List.map_toArray, List.map_cons, List.map_nil]); first | done | rfl | (simp only [List.length_drop, List.length_take]; rfl)) ?_; (with_reducible refine (cubitref09_digit.calls (bt a0 x6_1) true _ A33.out).mono ?_); rintro e w' ⟨rfl, ⟨nd, rfl⟩⟩; refine ⟨_, rfl, ?_⟩))
                    go_loopg [6] k1 (fun kq v6 w' => ∃ (x6_2 : Int), v6 = .int .i64 x6_2 ∧ Aside0 (cubitref09_Scan.l3 kq a0 x5_1 x6_2 x6_1 = some (r1, r2, r3)) ∧ Aside0 (kq ≤ k1) ∧ Aside0 (Kd.R k31 31 w' w.heap.size (fun _ => True) u5 x5_1) ∧ Aside0 (Below w.heap.size w w'))
                    case atStart => exact ⟨(x6_1), (by first | rfl | (simp; done) | (simp [*]; done)), H', ⟨Nat.le_refl _⟩, ⟨by (with_reducible repeat (first | apply Kd.R_alloc | apply Kd.R_drewN | apply Kd.R_drew)); exact HO_5.out⟩, ⟨by repeat (first | (with_reducible first | exact HB.out | apply below_alloc | apply pw_below_drewN | apply below_drew1) | exact HB.out)⟩⟩
                    case round =>
                      clear H'
                      try clear c1
                      try clear p1
                      try clear q1
                      try clear hx1
                      try clear c2
                      try clear c2b0
                      try clear c2b1
                      try clear p2
                      try clear q2
                      try clear hx2
                      try clear c3
                      try clear c3b0
                      try clear c4
                      try clear c4b0
                      try clear p5
                      try clear q5
                      try clear hx5
                      try clear p6
                      try clear c7
                      try clear c8
                      try clear c8b0
                      try clear c8b1
                      try clear c9
                      try clear c9b0
                      try clear c10
                      try clear c10b0
                      try clear p11
                      try clear q11
                      try clear hx11
                      try clear c12
                      try clear c12b0
                      try clear c12b1
                      try clear c14
                      try clear c15
                      try clear c15b0
                      try clear c16
                      try clear c16b0
                      try clear c17
                      try clear p17
                      try clear q17
                      try clear hx17
                      try clear c18
                      try clear c19
                      try clear p20
                      try clear q20
                      try clear hx20
                      try clear c22
                      try clear c23
                      try clear c23b0
                      try clear c23b1
                      try clear c24
                      try clear c24b0
                      try clear c24b1
                      try clear c25
                      try clear c25b0
                      try clear c25b1
                      try clear c26
                      try clear c28
                      try clear c28b0
                      try clear c28b1
                      try clear c29
                      try clear c29b0
                      try clear c29b1
                      try clear c30
                      try clear c30b0
                      try clear c30b1
                      try clear c31
                      try clear c34
                      try clear p1
                      try clear p11
                      try clear p17
                      try clear p2
                      try clear p20
                      try clear p5
                      try clear p6
                      try clear q1
                      try clear q11
                      try clear q17
                      try clear q20
                      try clear q5
                      obtain ⟨x6_2, rfl, HA, HK2, HO_5, HB⟩ := hrel
                      cases gk with
                      | zero => exact absurd HA.out (by simp [cubitref09_Scan.l3])
                      | succ k2 =>
                        have H := HA.out
                        clear HA
                        simp only [cubitref09_Scan.l3] at H
                        by_cases c35 : x6_2 < (a0.size : Int)
                        · rw [if_pos c35] at H
                          have c35b0 : decide (x6_2 < (a0.size : Int)) = true := decide_eq_true c35
                          clear c35
                          by_cases c36 : 0 ≤ x6_2
                          · rw [if_pos c36] at H
                            have c36b0 : decide (0 ≤ x6_2) = true := decide_eq_true c36
                            clear c36
                            replace H := Option.bind_eq_some_iff.mp H
                            obtain ⟨t149, A380, H⟩ := H
                            replace H : (if t149 = true then (cubitref09_Scan.l3 k2 a0 x5_1 (wrap64 (x6_2 + 1)) x6_1) else ((cubitref09_letter.f (bt a0 x6_2)).bind fun t150 => (if t150 = true then (some (([] : List (S31)), x6_2, 90)) else (if 0 ≤ x6_1 then (if x6_1 ≤ x6_2 then (if x6_2 ≤ (a0.size : Int) then (if x5_1.length < 4398046511104 then (cubitref09_Scan.l0 k2 a0 (x5_1 ++ [(⟨2, a0.extract (x6_1 : Int).toNat (x6_2 : Int).toNat, x6_1⟩ : S31)]) x6_2) else (none)) else (none)) else (none)) else (none))))) = some (r1, r2, r3) := H
                            have A38 := Aside0.mk A380
                            clear A380
                            by_cases c39 : t149 = true
                            · subst c39
                              have H1 : (cubitref09_Scan.l3 k2 a0 x5_1 (wrap64 (x6_2 + 1)) x6_1) = some (r1, r2, r3) := by rw [if_pos rfl] at H; exact H
                              clear H
                              have H := H1
                              clear H1
                              have H' := Aside0.mk H
                              clear H
                              have p37 : 0 ≤ (x6_2 : Int) := of_decide_eq_true (by first | (with_reducible assumption) | assumption)
                              have q37 : x6_2 < (a0.size : Int) := of_decide_eq_true (by first | (with_reducible assumption) | assumption)
                              have hx37 := bt_at a0 x6_2
                              replace p37 := eq_true p37
                              replace q37 := eq_true q37
                              go_wp2_with (first | (go_at_call 19; (with_reducible refine (cubitref09_digit.calls (bt a0 x6_2) true _ A38.out).mono ?_); rintro e w' ⟨rfl, ⟨nd, rfl⟩⟩))
                              go_roundg k2
                              case measure => have := HK1.out; have := HK2.out; omega
                              case rel => exact ⟨(wrap64 (x6_2 + 1)), (by first | rfl | (simp; done) | (simp [*]; done)), H', ⟨by have := HK1.out; have := HK2.out; omega⟩, ⟨by (with_reducible repeat (first | apply Kd.R_alloc | apply Kd.R_drewN | apply Kd.R_drew)); exact HO_5.out⟩, ⟨by repeat (first | (with_reducible first | exact HB.out | apply below_alloc | apply pw_below_drewN | apply below_drew1) | exact HB.out)⟩⟩
                            · replace c39 := Bool.eq_false_iff.mpr c39
                              subst c39
                              have H1 : ((cubitref09_letter.f (bt a0 x6_2)).bind fun t150 => (if t150 = true then (some (([] : List (S31)), x6_2, 90)) else (if 0 ≤ x6_1 then (if x6_1 ≤ x6_2 then (if x6_2 ≤ (a0.size : Int) then (if x5_1.length < 4398046511104 then (cubitref09_Scan.l0 k2 a0 (x5_1 ++ [(⟨2, a0.extract (x6_1 : Int).toNat (x6_2 : Int).toNat, x6_1⟩ : S31)]) x6_2) else (none)) else (none)) else (none)) else (none)))) = some (r1, r2, r3) := by rw [if_neg (show ¬ (false = true) by decide)] at H; exact H
                              clear H
                              have H := H1
                              clear H1
                              replace H := Option.bind_eq_some_iff.mp H
                              obtain ⟨t150, A410, H⟩ := H
                              replace H : (if t150 = true then (some (([] : List (S31)), x6_2, 90)) else (if 0 ≤ x6_1 then (if x6_1 ≤ x6_2 then (if x6_2 ≤ (a0.size : Int) then (if x5_1.length < 4398046511104 then (cubitref09_Scan.l0 k2 a0 (x5_1 ++ [(⟨2, a0.extract (x6_1 : Int).toNat (x6_2 : Int).toNat, x6_1⟩ : S31)]) x6_2) else (none)) else (none)) else (none)) else (none))) = some (r1, r2, r3) := H
                              have A41 := Aside0.mk A410
                              clear A410
                              by_cases c42 : t150 = true
                              · subst c42
                                have H1 : (some (([] : List (S31)), x6_2, 90)) = some (r1, r2, r3) := by rw [if_pos rfl] at H; exact H
                                clear H
                                have H := H1
                                clear H1
                                simp only [Option.some.injEq, Prod.mk.injEq] at H
                                obtain ⟨rfl, rfl, rfl⟩ := H
                                have p37 : 0 ≤ (x6_2 : Int) := of_decide_eq_true (by first | (with_reducible assumption) | assumption)
                                have q37 : x6_2 < (a0.size : Int) := of_decide_eq_true (by first | (with_reducible assumption) | assumption)
                                have hx37 := bt_at a0 x6_2
                                replace p37 := eq_true p37
                                replace q37 := eq_true q37
                                go_wp2_with (first | (go_at_call 19; (with_reducible refine (cubitref09_digit.calls (bt a0 x6_2) false _ A38.out).mono ?_); rintro e w' ⟨rfl, ⟨nd, rfl⟩⟩; have p40 : 0 ≤ (x6_2 : Int) := of_decide_eq_true (by first | (with_reducible assumption) | assumption); have q40 : x6_2 < (a0.size : Int) := of_decide_eq_true (by first | (with_reducible assumption) | assumption); have hx40 := bt_at a0 x6_2; replace p40 := eq_true p40; replace q40 := eq_true q40) | (go_at_call 18; (with_reducible refine (cubitref09_letter.calls (bt a0 x6_2) true _ A41.out).mono ?_); rintro e w' ⟨rfl, ⟨nd, rfl⟩⟩))
                                go_ret3
                                exact ⟨_, by first | rfl | (simp [errW_none, errW_some] <;> rfl) | (simp [*, errW_none, errW_some] <;> rfl), by first | exact Kd.R_nil _ _ _ _ _ | exact Kd.N_nil _ _ _ _ _ | exact Kd.V_nil _ _ _ _ _ | exact Kd.Q_nil _ _ _ _ _ | exact Kd.S_nil _ _ _ _ _, by repeat (first | (with_reducible first | exact HB.out | apply below_alloc | apply pw_below_drewN | apply below_drew1) | exact HB.out)⟩
                              · replace c42 := Bool.eq_false_iff.mpr c42
                                subst c42
                                have H1 : (if 0 ≤ x6_1 then (if x6_1 ≤ x6_2 then (if x6_2 ≤ (a0.size : Int) then (if x5_1.length < 4398046511104 then (cubitref09_Scan.l0 k2 a0 (x5_1 ++ [(⟨2, a0.extract (x6_1 : Int).toNat (x6_2 : Int).toNat, x6_1⟩ : S31)]) x6_2) else (none)) else (none)) else (none)) else (none)) = some (r1, r2, r3) := by rw [if_neg (show ¬ (false = true) by decide)] at H; exact H
                                clear H
                                have H := H1
                                clear H1
                                by_cases c43 : 0 ≤ x6_1
                                · rw [if_pos c43] at H
                                  have c43b0 := eq_true c43
                                  have c43b1 : decide (0 ≤ x6_1) = true := decide_eq_true c43
                                  clear c43
                                  by_cases c44 : x6_1 ≤ x6_2
                                  · rw [if_pos c44] at H
                                    have c44b0 := eq_true c44
                                    have c44b1 : decide (x6_1 ≤ x6_2) = true := decide_eq_true c44
                                    clear c44
                                    by_cases c45 : x6_2 ≤ (a0.size : Int)
                                    · rw [if_pos c45] at H
                                      have c45b0 := eq_true c45
                                      have c45b1 : decide (x6_2 ≤ (a0.size : Int)) = true := decide_eq_true c45
                                      clear c45
                                      by_cases c46 : x5_1.length < 4398046511104
                                      · rw [if_pos c46] at H
                                        have LMc46 := Aside0.mk c46
                                        clear c46
                                        obtain ⟨y151, hy151⟩ : ∃ y_ : List (S31), y_ = (x5_1 ++ [(⟨2, a0.extract (x6_1 : Int).toNat (x6_2 : Int).toNat, x6_1⟩ : S31)]) := ⟨_, rfl⟩
                                        replace H : (cubitref09_Scan.l0 k2 a0 y151 x6_2) = some (r1, r2, r3) := by first | (rw [hy151]; with_reducible exact H) | (have H2_ := (Option.bind_some _ _).symm.trans H; rw [hy151]; with_reducible exact H2_) | (have H2_ := (Option.bind_some _ _).symm.trans H; with_reducible exact H2_) | with_reducible exact H | (rw [hy151]; exact H) | exact H
                                        have Ny151 := Aside0.mk hy151
                                        clear hy151
                                        have H' := Aside0.mk H
                                        clear H
                                        have p37 : 0 ≤ (x6_2 : Int) := of_decide_eq_true (by first | (with_reducible assumption) | assumption)
                                        have q37 : x6_2 < (a0.size : Int) := of_decide_eq_true (by first | (with_reducible assumption) | assumption)
                                        have hx37 := bt_at a0 x6_2
                                        replace p37 := eq_true p37
                                        replace q37 := eq_true q37
                                        go_wp2_with (first | (go_at_call 19; (with_reducible refine (cubitref09_digit.calls (bt a0 x6_2) false _ A38.out).mono ?_); rintro e w' ⟨rfl, ⟨nd, rfl⟩⟩; have p40 : 0 ≤ (x6_2 : Int) := of_decide_eq_true (by first | (with_reducible assumption) | assumption); have q40 : x6_2 < (a0.size : Int) := of_decide_eq_true (by first | (with_reducible assumption) | assumption); have hx40 := bt_at a0 x6_2; replace p40 := eq_true p40; replace q40 := eq_true q40) | (go_at_call 18; (with_reducible refine (cubitref09_letter.calls (bt a0 x6_2) false _ A41.out).mono ?_); rintro e w' ⟨rfl, ⟨nd, rfl⟩⟩) | ((with_reducible refine gate_builtin (b := .append) (xs := #[.tmp 97, .tmp 104]) rfl ?_); at_builtin; refine Kd.R_append k31 (w0 := w) w.heap.size rfl (.tmp 97) (.tmp 104) 23 31 (.agg #[(.int .i64 0), (.string ⟨#[]⟩), (.int .i64 0)]) 32 rfl Try.underlying23 info31 rfl (by decide) (by omega) u5 x5_1 (⟨2, a0.extract (x6_1 : Int).toNat (x6_2 : Int).toNat, x6_1⟩ : S31) [.int .i64 2, .string (a0.extract (x6_1 : Int).toNat (x6_2 : Int).toNat), .int .i64 x6_1] (fun _ => True) (fun _ => False) rfl rfl ?aP (fun _ hk => hk.elim) ?aF ?aO ?aB ?aS ?aL ?_; (case aP => exact k31_mkM _ _ _ (⟨2, a0.extract (x6_1 : Int).toNat (x6_2 : Int).toNat, x6_1⟩ : S31)); (case aB => exact (by repeat (first | (with_reducible first | exact HB.out | apply below_alloc | apply pw_below_drewN | apply below_drew1) | exact HB.out))); (case aF => exact (fun _ _ => trivial)); (case aO => exact (by (with_reducible repeat (first | apply Kd.R_alloc | apply Kd.R_drewN | apply Kd.R_drew)); exact HO_5.out)); (case aS => exact (below_size (by repeat (first | (with_reducible first | exact HB.out | apply below_alloc | apply pw_below_drewN | apply below_drew1) | exact HB.out)))); (case aL => have := LMc46.out; omega); intro v152 w47 ho hb hg hat; rw [← Ny151.out] at ho; have n0_ := Aside0.mk (hb); have n1_ := Aside0.mk (ho); clear HB; clear HO_5; have HB := n0_; have HO153 := n1_; clear n0_ n1_; clear ho hb hg hat))
                                        go_roundg k2
                                        case measure => have := HK1.out; have := HK2.out; omega
                                        case rel => exact ⟨(y151), (x6_2), (by first | rfl | (simp; done) | (simp [*]; done)), H', ⟨by have := HK1.out; have := HK2.out; omega⟩, ⟨by (with_reducible repeat (first | apply Kd.R_alloc | apply Kd.R_drewN | apply Kd.R_drew)); exact HO153.out⟩, ⟨by repeat (first | (with_reducible first | exact HB.out | apply below_alloc | apply pw_below_drewN | apply below_drew1) | exact HB.out)⟩⟩
                                      · rw [if_neg c46] at H
                                        exact absurd H (by simp)
                                    · rw [if_neg c45] at H
                                      exact absurd H (by simp)
                                  · rw [if_neg c44] at H
                                    exact absurd H (by simp)
                                · rw [if_neg c43] at H
                                  exact absurd H (by simp)
                          · rw [if_neg c36] at H
                            exact absurd H (by simp)
                        · rw [if_neg c35] at H
                          have c35b0 : decide (x6_2 < (a0.size : Int)) = false := decide_eq_false c35
                          clear c35
                          by_cases c48 : 0 ≤ x6_1
                          · rw [if_pos c48] at H
                            have c48b0 := eq_true c48
                            have c48b1 : decide (0 ≤ x6_1) = true := decide_eq_true c48
                            clear c48
                            by_cases c49 : x6_1 ≤ x6_2
                            · rw [if_pos c49] at H
                              have c49b0 := eq_true c49
                              have c49b1 : decide (x6_1 ≤ x6_2) = true := decide_eq_true c49
                              clear c49
                              by_cases c50 : x6_2 ≤ (a0.size : Int)
                              · rw [if_pos c50] at H
                                have c50b0 := eq_true c50
                                have c50b1 : decide (x6_2 ≤ (a0.size : Int)) = true := decide_eq_true c50
                                clear c50
                                by_cases c51 : x5_1.length < 4398046511104
                                · rw [if_pos c51] at H
                                  have LMc51 := Aside0.mk c51
                                  clear c51
                                  obtain ⟨y154, hy154⟩ : ∃ y_ : List (S31), y_ = (x5_1 ++ [(⟨2, a0.extract (x6_1 : Int).toNat (x6_2 : Int).toNat, x6_1⟩ : S31)]) := ⟨_, rfl⟩
                                  replace H : (cubitref09_Scan.l0 k2 a0 y154 x6_2) = some (r1, r2, r3) := by first | (rw [hy154]; with_reducible exact H) | (have H2_ := (Option.bind_some _ _).symm.trans H; rw [hy154]; with_reducible exact H2_) | (have H2_ := (Option.bind_some _ _).symm.trans H; with_reducible exact H2_) | with_reducible exact H | (rw [hy154]; exact H) | exact H
                                  have Ny154 := Aside0.mk hy154
                                  clear hy154
                                  have H' := Aside0.mk H
                                  clear H
                                  go_wp2_with (first | ((with_reducible refine gate_builtin (b := .append) (xs := #[.tmp 97, .tmp 104]) rfl ?_); at_builtin; refine Kd.R_append k31 (w0 := w) w.heap.size rfl (.tmp 97) (.tmp 104) 23 31 (.agg #[(.int .i64 0), (.string ⟨#[]⟩), (.int .i64 0)]) 32 rfl Try.underlying23 info31 rfl (by decide) (by omega) u5 x5_1 (⟨2, a0.extract (x6_1 : Int).toNat (x6_2 : Int).toNat, x6_1⟩ : S31) [.int .i64 2, .string (a0.extract (x6_1 : Int).toNat (x6_2 : Int).toNat), .int .i64 x6_1] (fun _ => True) (fun _ => False) rfl rfl ?aP (fun _ hk => hk.elim) ?aF ?aO ?aB ?aS ?aL ?_; (case aP => exact k31_mkM _ _ _ (⟨2, a0.extract (x6_1 : Int).toNat (x6_2 : Int).toNat, x6_1⟩ : S31)); (case aB => exact (by repeat (first | (with_reducible first | exact HB.out | apply below_alloc | apply pw_below_drewN | apply below_drew1) | exact HB.out))); (case aF => exact (fun _ _ => trivial)); (case aO => exact (by (with_reducible repeat (first | apply Kd.R_alloc | apply Kd.R_drewN | apply Kd.R_drew)); exact HO_5.out)); (case aS => exact (below_size (by repeat (first | (with_reducible first | exact HB.out | apply below_alloc | apply pw_below_drewN | apply below_drew1) | exact HB.out)))); (case aL => have := LMc51.out; omega); intro v155 w52 ho hb hg hat; rw [← Ny154.out] at ho; have n0_ := Aside0.mk (hb); have n1_ := Aside0.mk (ho); clear HB; clear HO_5; have HB := n0_; have HO156 := n1_; clear n0_ n1_; clear ho hb hg hat))
                                  go_roundg k2
                                  case measure => have := HK1.out; have := HK2.out; omega
                                  case rel => exact ⟨(y154), (x6_2), (by first | rfl | (simp; done) | (simp [*]; done)), H', ⟨by have := HK1.out; have := HK2.out; omega⟩, ⟨by (with_reducible repeat (first | apply Kd.R_alloc | apply Kd.R_drewN | apply Kd.R_drew)); exact HO156.out⟩, ⟨by repeat (first | (with_reducible first | exact HB.out | apply below_alloc | apply pw_below_drewN | apply below_drew1) | exact HB.out)⟩⟩
                                · rw [if_neg c51] at H
                                  exact absurd H (by simp)
                              · rw [if_neg c50] at H
                                exact absurd H (by simp)
                            · rw [if_neg c49] at H
                              exact absurd H (by simp)
                          · rw [if_neg c48] at H
                            exact absurd H (by simp)
                  · replace c34 := Bool.eq_false_iff.mpr c34
                    subst c34
                    have H1 : ((cubitref09_isSign.f (bt a0 x6_1)).bind fun t157 => (if t157 = true then (if x6_1 ≤ (wrap64 (x6_1 + 1)) then (if (wrap64 (x6_1 + 1)) ≤ (a0.size : Int) then (if x5_1.length < 4398046511104 then (cubitref09_Scan.l0 k1 a0 (x5_1 ++ [(⟨3, a0.extract (x6_1 : Int).toNat ((wrap64 (x6_1 + 1)) : Int).toNat, x6_1⟩ : S31)]) (wrap64 (x6_1 + 1))) else (none)) else (none)) else (none)) else (some (([] : List (S31)), x6_1, 90)))) = some (r1, r2, r3) := by rw [if_neg (show ¬ (false = true) by decide)] at H; exact H
                    clear H
                    have H := H1
                    clear H1
                    replace H := Option.bind_eq_some_iff.mp H
                    obtain ⟨t157, A530, H⟩ := H
                    replace H : (if t157 = true then (if x6_1 ≤ (wrap64 (x6_1 + 1)) then (if (wrap64 (x6_1 + 1)) ≤ (a0.size : Int) then (if x5_1.length < 4398046511104 then (cubitref09_Scan.l0 k1 a0 (x5_1 ++ [(⟨3, a0.extract (x6_1 : Int).toNat ((wrap64 (x6_1 + 1)) : Int).toNat, x6_1⟩ : S31)]) (wrap64 (x6_1 + 1))) else (none)) else (none)) else (none)) else (some (([] : List (S31)), x6_1, 90))) = some (r1, r2, r3) := H
                    have A53 := Aside0.mk A530
                    clear A530
                    by_cases c54 : t157 = true
                    · subst c54
                      have H1 : (if x6_1 ≤ (wrap64 (x6_1 + 1)) then (if (wrap64 (x6_1 + 1)) ≤ (a0.size : Int) then (if x5_1.length < 4398046511104 then (cubitref09_Scan.l0 k1 a0 (x5_1 ++ [(⟨3, a0.extract (x6_1 : Int).toNat ((wrap64 (x6_1 + 1)) : Int).toNat, x6_1⟩ : S31)]) (wrap64 (x6_1 + 1))) else (none)) else (none)) else (none)) = some (r1, r2, r3) := by rw [if_pos rfl] at H; exact H
                      clear H
                      have H := H1
                      clear H1
                      have c55b0 := eq_true (of_decide_eq_true (by first | (with_reducible assumption) | assumption) : 0 ≤ x6_1)
                      by_cases c56 : x6_1 ≤ (wrap64 (x6_1 + 1))
                      · rw [if_pos c56] at H
                        have c56b0 := eq_true c56
                        have c56b1 : decide (x6_1 ≤ (wrap64 (x6_1 + 1))) = true := decide_eq_true c56
                        by_cases c57 : (wrap64 (x6_1 + 1)) ≤ (a0.size : Int)
                        · rw [if_pos c57] at H
                          have c57b0 := eq_true c57
                          have c57b1 : decide ((wrap64 (x6_1 + 1)) ≤ (a0.size : Int)) = true := decide_eq_true c57
                          by_cases c58 : x5_1.length < 4398046511104
                          · rw [if_pos c58] at H
                            have LMc58 := Aside0.mk c58
                            clear c58
                            obtain ⟨y158, hy158⟩ : ∃ y_ : List (S31), y_ = (x5_1 ++ [(⟨3, a0.extract (x6_1 : Int).toNat ((wrap64 (x6_1 + 1)) : Int).toNat, x6_1⟩ : S31)]) := ⟨_, rfl⟩
                            replace H : (cubitref09_Scan.l0 k1 a0 y158 (wrap64 (x6_1 + 1))) = some (r1, r2, r3) := by first | (rw [hy158]; with_reducible exact H) | (have H2_ := (Option.bind_some _ _).symm.trans H; rw [hy158]; with_reducible exact H2_) | (have H2_ := (Option.bind_some _ _).symm.trans H; with_reducible exact H2_) | with_reducible exact H | (rw [hy158]; exact H) | exact H
                            have Ny158 := Aside0.mk hy158
                            clear hy158
                            have H' := Aside0.mk H
                            clear H
                            have p5 : 0 ≤ (x6_1 : Int) := of_decide_eq_true (by first | (with_reducible assumption) | assumption)
                            have q5 : x6_1 < (a0.size : Int) := of_decide_eq_true (by first | (with_reducible assumption) | assumption)
                            have hx5 := bt_at a0 x6_1
                            replace p5 := eq_true p5
                            replace q5 := eq_true q5
                            go_wp2_with (first | ((with_reducible refine gate_callee (f := 17) rfl ?_); refine goesL_ (some 23) rfl rfl Try.func17 (by kernel_rfl) rfl #[.int .u8 (bt a0 x6_1)] rfl (by (try simp only [List.map_toArray, List.map_cons, List.map_nil]); first | done | rfl | (simp only [List.length_drop, List.length_take]; rfl)) ?_; (with_reducible refine (cubitref09_blank.calls (bt a0 x6_1) false _ A6.out).mono ?_); rintro e w' ⟨rfl, ⟨nd, rfl⟩⟩; refine ⟨_, rfl, ?_⟩) | ((with_reducible refine gate_callee (f := 18) rfl ?_); refine goesL_ (some 43) rfl rfl Try.func18 (by kernel_rfl) rfl #[.int .u8 (bt a0 x6_1)] rfl (by (try simp only [List.map_toArray, List.map_cons, List.map_nil]); first | done | rfl | (simp only [List.length_drop, List.length_take]; rfl)) ?_; (with_reducible refine (cubitref09_letter.calls (bt a0 x6_1) false _ A13.out).mono ?_); rintro e w' ⟨rfl, ⟨nd, rfl⟩⟩; refine ⟨_, rfl, ?_⟩) | ((with_reducible refine gate_callee (f := 19) rfl ?_); refine goesL_ (some 73) rfl rfl Try.func19 (by kernel_rfl) rfl #[.int .u8 (bt a0 x6_1)] rfl (by (try simp only [List.map_toArray, List.map_cons, List.map_nil]); first | done | rfl | (simp only [List.length_drop, List.length_take]; rfl)) ?_; (with_reducible refine (cubitref09_digit.calls (bt a0 x6_1) false _ A33.out).mono ?_); rintro e w' ⟨rfl, ⟨nd, rfl⟩⟩; refine ⟨_, rfl, ?_⟩) | ((with_reducible refine gate_callee (f := 20) rfl ?_); refine goesL_ (some 108) rfl rfl Try.func20 (by kernel_rfl) rfl #[.int .u8 (bt a0 x6_1)] rfl (by (try simp only [List.map_toArray, List.map_cons, List.map_nil]); first | done | rfl | (simp only [List.length_drop, List.length_take]; rfl)) ?_; (with_reducible refine (cubitref09_isSign.calls (bt a0 x6_1) true _ A53.out).mono ?_); rintro e w' ⟨rfl, ⟨nd, rfl⟩⟩; refine ⟨_, rfl, ?_⟩) | ((with_reducible refine gate_builtin (b := .append) (xs := #[.tmp 111, .tmp 118]) rfl ?_); at_builtin; refine Kd.R_append k31 (w0 := w) w.heap.size rfl (.tmp 111) (.tmp 118) 23 31 (.agg #[(.int .i64 0), (.string ⟨#[]⟩), (.int .i64 0)]) 32 rfl Try.underlying23 info31 rfl (by decide) (by omega) u5 x5_1 (⟨3, a0.extract (x6_1 : Int).toNat ((wrap64 (x6_1 + 1)) : Int).toNat, x6_1⟩ : S31) [.int .i64 3, .string (a0.extract (x6_1 : Int).toNat ((wrap64 (x6_1 + 1)) : Int).toNat), .int .i64 x6_1] (fun _ => True) (fun _ => False) rfl rfl ?aP (fun _ hk => hk.elim) ?aF ?aO ?aB ?aS ?aL ?_; (case aP => exact k31_mkM _ _ _ (⟨3, a0.extract (x6_1 : Int).toNat ((wrap64 (x6_1 + 1)) : Int).toNat, x6_1⟩ : S31)); (case aB => exact (by repeat (first | (with_reducible first | exact HB.out | apply below_alloc | apply pw_below_drewN | apply below_drew1) | exact HB.out))); (case aF => exact (fun _ _ => trivial)); (case aO => exact (by (with_reducible repeat (first | apply Kd.R_alloc | apply Kd.R_drewN | apply Kd.R_drew)); exact HO_5.out)); (case aS => exact (below_size (by repeat (first | (with_reducible first | exact HB.out | apply below_alloc | apply pw_below_drewN | apply below_drew1) | exact HB.out)))); (case aL => have := LMc58.out; omega); intro v159 w59 ho hb hg hat; rw [← Ny158.out] at ho; have n0_ := Aside0.mk (hb); have n1_ := Aside0.mk (ho); clear HB; clear HO_5; have HB := n0_; have HO160 := n1_; clear n0_ n1_; clear ho hb hg hat))
                            go_roundg k1
                            case measure => have := HK1.out; omega
                            case rel => exact ⟨(y158), (wrap64 (x6_1 + 1)), (by first | rfl | (simp; done) | (simp [*]; done)), H', ⟨by have := HK1.out; omega⟩, ⟨by (with_reducible repeat (first | apply Kd.R_alloc | apply Kd.R_drewN | apply Kd.R_drew)); exact HO160.out⟩, ⟨by repeat (first | (with_reducible first | exact HB.out | apply below_alloc | apply pw_below_drewN | apply below_drew1) | exact HB.out)⟩⟩
                          · rw [if_neg c58] at H
                            exact absurd H (by simp)
                        · rw [if_neg c57] at H
                          exact absurd H (by simp)
                      · rw [if_neg c56] at H
                        exact absurd H (by simp)
                    · replace c54 := Bool.eq_false_iff.mpr c54
                      subst c54
                      have H1 : (some (([] : List (S31)), x6_1, 90)) = some (r1, r2, r3) := by rw [if_neg (show ¬ (false = true) by decide)] at H; exact H
                      clear H
                      have H := H1
                      clear H1
                      simp only [Option.some.injEq, Prod.mk.injEq] at H
                      obtain ⟨rfl, rfl, rfl⟩ := H
                      have p5 : 0 ≤ (x6_1 : Int) := of_decide_eq_true (by first | (with_reducible assumption) | assumption)
                      have q5 : x6_1 < (a0.size : Int) := of_decide_eq_true (by first | (with_reducible assumption) | assumption)
                      have hx5 := bt_at a0 x6_1
                      replace p5 := eq_true p5
                      replace q5 := eq_true q5
                      go_wp2_with (first | ((with_reducible refine gate_callee (f := 17) rfl ?_); refine goesL_ (some 23) rfl rfl Try.func17 (by kernel_rfl) rfl #[.int .u8 (bt a0 x6_1)] rfl (by (try simp only [List.map_toArray, List.map_cons, List.map_nil]); first | done | rfl | (simp only [List.length_drop, List.length_take]; rfl)) ?_; (with_reducible refine (cubitref09_blank.calls (bt a0 x6_1) false _ A6.out).mono ?_); rintro e w' ⟨rfl, ⟨nd, rfl⟩⟩; refine ⟨_, rfl, ?_⟩) | ((with_reducible refine gate_callee (f := 18) rfl ?_); refine goesL_ (some 43) rfl rfl Try.func18 (by kernel_rfl) rfl #[.int .u8 (bt a0 x6_1)] rfl (by (try simp only [List.map_toArray, List.map_cons, List.map_nil]); first | done | rfl | (simp only [List.length_drop, List.length_take]; rfl)) ?_; (with_reducible refine (cubitref09_letter.calls (bt a0 x6_1) false _ A13.out).mono ?_); rintro e w' ⟨rfl, ⟨nd, rfl⟩⟩; refine ⟨_, rfl, ?_⟩) | ((with_reducible refine gate_callee (f := 19) rfl ?_); refine goesL_ (some 73) rfl rfl Try.func19 (by kernel_rfl) rfl #[.int .u8 (bt a0 x6_1)] rfl (by (try simp only [List.map_toArray, List.map_cons, List.map_nil]); first | done | rfl | (simp only [List.length_drop, List.length_take]; rfl)) ?_; (with_reducible refine (cubitref09_digit.calls (bt a0 x6_1) false _ A33.out).mono ?_); rintro e w' ⟨rfl, ⟨nd, rfl⟩⟩; refine ⟨_, rfl, ?_⟩) | ((with_reducible refine gate_callee (f := 20) rfl ?_); refine goesL_ (some 108) rfl rfl Try.func20 (by kernel_rfl) rfl #[.int .u8 (bt a0 x6_1)] rfl (by (try simp only [List.map_toArray, List.map_cons, List.map_nil]); first | done | rfl | (simp only [List.length_drop, List.length_take]; rfl)) ?_; (with_reducible refine (cubitref09_isSign.calls (bt a0 x6_1) false _ A53.out).mono ?_); rintro e w' ⟨rfl, ⟨nd, rfl⟩⟩; refine ⟨_, rfl, ?_⟩))
                      go_ret3
                      exact ⟨_, by first | rfl | (simp [errW_none, errW_some] <;> rfl) | (simp [*, errW_none, errW_some] <;> rfl), by first | exact Kd.R_nil _ _ _ _ _ | exact Kd.N_nil _ _ _ _ _ | exact Kd.V_nil _ _ _ _ _ | exact Kd.Q_nil _ _ _ _ _ | exact Kd.S_nil _ _ _ _ _, by repeat (first | (with_reducible first | exact HB.out | apply below_alloc | apply pw_below_drewN | apply below_drew1) | exact HB.out)⟩
          · rw [if_neg c4] at H
            exact absurd H (by simp)
        · rw [if_neg c3] at H
          have c3b0 : decide (x6_1 < (a0.size : Int)) = false := decide_eq_false c3
          clear c3
          simp only [Option.some.injEq, Prod.mk.injEq] at H
          obtain ⟨rfl, rfl, rfl⟩ := H
          go_wp2
          go_ret3
          exact ⟨_, by first | rfl | (simp [errW_none, errW_some] <;> rfl) | (simp [*, errW_none, errW_some] <;> rfl), by (with_reducible repeat (first | apply Kd.R_alloc | apply Kd.R_drewN | apply Kd.R_drew)); exact HO_5.out, by repeat (first | (with_reducible first | exact HB.out | apply below_alloc | apply pw_below_drewN | apply below_drew1) | exact HB.out)⟩

end Go.Proofs.Ytkonklmgkkbnmaa.PA
