/- Printed for this claim by a program of the session: contracts of Go functions: a call answers what its Lean function tells, wherever that tells something. -/
import Derived.Test.YtoebcbhadcpcoaaDoorPAx0
import Derived.Test.YtoebcbhadcpcoaaDoorPAx2
namespace Go.Proofs.YtoebcbhadcpcoaaDoor.PA
open Go.RowKit Go.Proofs.YtoebcbhadcpcoaaDoorW.PrintWords Go.Proofs.YtoebcbhadcpcoaaDoorW.PrintLast Go.Proofs.YtoebcbhadcpcoaaDoorW.PrintMore
attribute [local go_sem] max2_int min2_int max_two min_two max_three min_three max_four min_four   -- for this text's walks alone
set_option linter.unusedVariables false
set_option linter.unusedSimpArgs false

/-! ### cubitref03_Text: function 16 -/
mutual
def cubitref03_Text.j0 : Nat → Int → Int → Bool → Option (ByteArray × Int)
  | 0, _, _, _ => none
  | k + 1, x0, x1, x14 => if x14 = true then (some ((⟨#[]⟩ : ByteArray), 2)) else (cubitref03_Text.l0 k x0 x1 x1)
def cubitref03_Text.l0 : Nat → Int → Int → Int → Option (ByteArray × Int)
  | 0, _, _, _ => none
  | k + 1, x0, x1, x6 => if x6 < 64 then ((cubitref03_bit.f x0 x6).bind fun t194 => (if t194 = 1 then (some ((⟨#[]⟩ : ByteArray), 2)) else (cubitref03_Text.l0 k x0 x1 (wrap64 (x6 + 1))))) else (cubitref03_Text.l1 k x0 (⟨#[]⟩ : ByteArray) (wrap64 (x1 - 1)))
def cubitref03_Text.l1 : Nat → Int → ByteArray → Int → Option (ByteArray × Int)
  | 0, _, _, _ => none
  | k + 1, x0, x7, x8 => if x8 ≥ 0 then ((cubitref03_bit.f x0 x8).bind fun t195 => (if t195 = 1 then (if x7.size + 1 ≤ 9223372036854775807 then (cubitref03_Text.l1 k x0 (x7 ++ (⟨#[49]⟩ : ByteArray)) (wrap64 (x8 - 1))) else (none)) else (if x7.size + 1 ≤ 9223372036854775807 then (cubitref03_Text.l1 k x0 (x7 ++ (⟨#[48]⟩ : ByteArray)) (wrap64 (x8 - 1))) else (none)))) else (some (x7, 0))
end
def cubitref03_Text.f (k : Nat) (a0 : Int) (a1 : Int) : Option (ByteArray × Int) := if a1 < 0 then (cubitref03_Text.j0 k a0 a1 true) else (cubitref03_Text.j0 k a0 a1 (decide (a1 > 64)))
theorem cubitref03_Text.mono_l : ∀ k, (∀ y0 y1 y2, LeO (cubitref03_Text.j0 k y0 y1 y2) (cubitref03_Text.j0 (k + 1) y0 y1 y2)) ∧ (∀ y0 y1 y2, LeO (cubitref03_Text.l0 k y0 y1 y2) (cubitref03_Text.l0 (k + 1) y0 y1 y2)) ∧ (∀ y0 y1 y2, LeO (cubitref03_Text.l1 k y0 y1 y2) (cubitref03_Text.l1 (k + 1) y0 y1 y2))
  | 0 => ⟨fun _ _ _ r h => by simp [cubitref03_Text.j0] at h, fun _ _ _ r h => by simp [cubitref03_Text.l0] at h, fun _ _ _ r h => by simp [cubitref03_Text.l1] at h⟩
  | k + 1 => by
    obtain ⟨ih0, ih1, ih2⟩ := cubitref03_Text.mono_l k
    refine ⟨?_, ?_, ?_⟩
    · intro y0 y1 y2
      unfold cubitref03_Text.j0
      repeat' first
      | (with_reducible exact ih0 _ _ _)
      | (with_reducible exact ih1 _ _ _)
      | (with_reducible exact ih2 _ _ _)
      | (with_reducible exact LeO.refl _)
      | (with_reducible exact LeO.none _)
      | (with_reducible refine LeO.ite ?_ ?_)
      | (with_reducible refine LeO.bind ?_ (fun _ => ?_))
      | exact ih0 _ _ _
      | exact ih1 _ _ _
      | exact ih2 _ _ _
      | exact LeO.none _
      | refine LeO.ite ?_ ?_
      | refine LeO.bind ?_ (fun _ => ?_)
    · intro y0 y1 y2
      unfold cubitref03_Text.l0
      repeat' first
      | (with_reducible exact ih0 _ _ _)
      | (with_reducible exact ih1 _ _ _)
      | (with_reducible exact ih2 _ _ _)
      | (with_reducible exact LeO.refl _)
      | (with_reducible exact LeO.none _)
      | (with_reducible refine LeO.ite ?_ ?_)
      | (with_reducible refine LeO.bind ?_ (fun _ => ?_))
      | exact ih0 _ _ _
      | exact ih1 _ _ _
      | exact ih2 _ _ _
      | exact LeO.none _
      | refine LeO.ite ?_ ?_
      | refine LeO.bind ?_ (fun _ => ?_)
    · intro y0 y1 y2
      unfold cubitref03_Text.l1
      repeat' first
      | (with_reducible exact ih0 _ _ _)
      | (with_reducible exact ih1 _ _ _)
      | (with_reducible exact ih2 _ _ _)
      | (with_reducible exact LeO.refl _)
      | (with_reducible exact LeO.none _)
      | (with_reducible refine LeO.ite ?_ ?_)
      | (with_reducible refine LeO.bind ?_ (fun _ => ?_))
      | exact ih0 _ _ _
      | exact ih1 _ _ _
      | exact ih2 _ _ _
      | exact LeO.none _
      | refine LeO.ite ?_ ?_
      | refine LeO.bind ?_ (fun _ => ?_)
theorem cubitref03_Text.mono : ∀ a0 a1 k, LeO (cubitref03_Text.f k a0 a1) (cubitref03_Text.f (k + 1) a0 a1) := by
  intro a0 a1 k
  obtain ⟨ih0, ih1, ih2⟩ := cubitref03_Text.mono_l k
  unfold cubitref03_Text.f
  repeat' first
      | (with_reducible exact ih0 _ _ _)
      | (with_reducible exact ih1 _ _ _)
      | (with_reducible exact ih2 _ _ _)
      | (with_reducible exact LeO.refl _)
      | (with_reducible exact LeO.none _)
      | (with_reducible refine LeO.ite ?_ ?_)
      | (with_reducible refine LeO.bind ?_ (fun _ => ?_))
      | exact ih0 _ _ _
      | exact ih1 _ _ _
      | exact ih2 _ _ _
      | exact LeO.none _
      | refine LeO.ite ?_ ?_
      | refine LeO.bind ?_ (fun _ => ?_)
set_option maxHeartbeats 8000000 in
set_option maxRecDepth 100000 in
theorem cubitref03_Text.calls (k : Nat) (a0 : Int) (a1 : Int) (r1 : ByteArray) (r2 : Int) (w : World) (h : cubitref03_Text.f k a0 a1 = some (r1, r2)) :
    Calls Tryd.prog 16 #[.int .u64 a0, .int .i64 a1] w fun e w' => e = .returned (.tuple #[.string r1, .int .i64 r2]) ∧ Drawn0 w w' := by
  have H : (if a1 < 0 then (cubitref03_Text.j0 k a0 a1 true) else (cubitref03_Text.j0 k a0 a1 (decide (a1 > 64)))) = some (r1, r2) := h
  clear h
  have HC3 := Aside0.mk H
  clear H
  go_enter Tryd.func16, Tryd.ntmps16
  go_upto_region 1 with (fail)
  go_cut [14] (fun v14 wc => ∃ (kq : Nat) (x14_2 : Bool), v14 = .bool x14_2 ∧ Aside0 (cubitref03_Text.j0 kq a0 a1 x14_2 = some (r1, r2)) ∧ Aside0 (kq ≤ k) ∧ Drawn0 w wc)
  case first =>
    have H := HC3.out
    clear HC3
    by_cases c4 : a1 < 0
    · rw [if_pos c4] at H
      have c4b0 : decide (a1 < 0) = true := decide_eq_true c4
      clear c4
      (first | rw [c4b0] | (simp only [i64_w, i32_w]; rw [c4b0]) | skip)
      have H' := Aside0.mk H
      clear H
      go_wp2
      go_meet
      case rel => exact ⟨_, (true), (by first | rfl | (simp; done) | (simp [*]; done)), H', ⟨by first | omega | exact Nat.le_refl _⟩, by repeat (first | exact Drawn0.refl _ | apply Drawn0.step)⟩
    · rw [if_neg c4] at H
      have c4b0 : decide (a1 < 0) = false := decide_eq_false c4
      clear c4
      (first | rw [c4b0] | (simp only [i64_w, i32_w]; rw [c4b0]) | skip)
      have H' := Aside0.mk H
      clear H
      go_wp2
      go_meet
      case rel => exact ⟨_, (decide (a1 > 64)), (by first | rfl | (simp; done) | (simp [*]; done)), H', ⟨by first | omega | exact Nat.le_refl _⟩, by repeat (first | exact Drawn0.refl _ | apply Drawn0.step)⟩
  case rest =>
    clear HC3
    try clear c1
    try clear p2
    try clear c4
    try clear c4b0
    obtain ⟨kq, x14_2, rfl, HA, HJ2, ⟨mc2, rfl⟩⟩ := hcut
    cases kq with
    | zero => exact absurd HA.out (by simp [cubitref03_Text.j0])
    | succ kj2 =>
      have H := HA.out
      clear HA
      simp only [cubitref03_Text.j0] at H
      by_cases c5 : x14_2 = true
      · subst c5
        have H1 : (some ((⟨#[]⟩ : ByteArray), 2)) = some (r1, r2) := by rw [if_pos rfl] at H; exact H
        clear H
        have H := H1
        clear H1
        simp only [Option.some.injEq, Prod.mk.injEq] at H
        obtain ⟨rfl, rfl⟩ := H
        go_wp2
        go_ret2
        exact ⟨by first | rfl | (simp; done) | (simp [*]; done), by repeat (first | exact Drawn0.refl _ | apply Drawn0.step)⟩
      · replace c5 := Bool.eq_false_iff.mpr c5
        subst c5
        have H1 : (cubitref03_Text.l0 kj2 a0 a1 a1) = some (r1, r2) := by rw [if_neg (show ¬ (false = true) by decide)] at H; exact H
        clear H
        have H := H1
        clear H1
        have H' := Aside0.mk H
        clear H
        go_wp2
        go_loopg [6] kj2 (fun kq v6 w' => ∃ (x6_2 : Int), v6 = .int .i64 x6_2 ∧ Aside0 (cubitref03_Text.l0 kq a0 a1 x6_2 = some (r1, r2)) ∧ Aside0 (kq ≤ kj2) ∧ Drawn0 w w')
        case atStart => exact ⟨(a1), (by first | rfl | (simp; done) | (simp [*]; done)), H', ⟨Nat.le_refl _⟩, by repeat (first | exact Drawn0.refl _ | apply Drawn0.step)⟩
        case round =>
          clear H'
          try clear c1
          try clear c2
          try clear p2
          try clear c4
          try clear c4b0
          try clear c5
          try clear p2
          obtain ⟨x6_2, rfl, HA, HK2, ⟨m2, rfl⟩⟩ := hrel
          cases gk with
          | zero => exact absurd HA.out (by simp [cubitref03_Text.l0])
          | succ k2 =>
            have H := HA.out
            clear HA
            simp only [cubitref03_Text.l0] at H
            by_cases c6 : x6_2 < 64
            · rw [if_pos c6] at H
              have c6b0 : decide (x6_2 < 64) = true := decide_eq_true c6
              clear c6
              replace H := Option.bind_eq_some_iff.mp H
              obtain ⟨t194, A70, H⟩ := H
              replace H : (if t194 = 1 then (some ((⟨#[]⟩ : ByteArray), 2)) else (cubitref03_Text.l0 k2 a0 a1 (wrap64 (x6_2 + 1)))) = some (r1, r2) := H
              have A7 := Aside0.mk A70
              clear A70
              by_cases c8 : t194 = 1
              · rw [if_pos c8] at H
                have c8b0 : (t194 == 1) = true := beq_iff_eq.mpr c8
                have c8b1 : (t194 != 1) = false := bne_eq_false_iff_eq.mpr c8
                clear c8
                simp only [Option.some.injEq, Prod.mk.injEq] at H
                obtain ⟨rfl, rfl⟩ := H
                go_wp2_with (first | ((with_reducible refine gate_callee (f := 40) rfl ?_); refine goesL_ (some 22) rfl rfl Tryd.func40 (by kernel_rfl) rfl #[.int .u64 a0, .int .i64 x6_2] rfl (by (try simp only [List.map_toArray, List.map_cons, List.map_nil]); first | done | rfl | (simp only [List.length_drop, List.length_take]; rfl)) ?_; (with_reducible refine (cubitref03_bit.calls a0 x6_2 t194 _ A7.out).mono ?_); rintro e w' ⟨rfl, ⟨nd, rfl⟩⟩; refine ⟨_, rfl, ?_⟩))
                go_ret2
                exact ⟨by first | rfl | (simp; done) | (simp [*]; done), by repeat (first | exact Drawn0.refl _ | apply Drawn0.step)⟩
              · rw [if_neg c8] at H
                have c8b0 : (t194 == 1) = false := beq_eq_false_iff_ne.mpr c8
                have c8b1 : (t194 != 1) = true := bne_iff_ne.mpr c8
                have H' := Aside0.mk H
                clear H
                go_wp2_with (first | ((with_reducible refine gate_callee (f := 40) rfl ?_); refine goesL_ (some 22) rfl rfl Tryd.func40 (by kernel_rfl) rfl #[.int .u64 a0, .int .i64 x6_2] rfl (by (try simp only [List.map_toArray, List.map_cons, List.map_nil]); first | done | rfl | (simp only [List.length_drop, List.length_take]; rfl)) ?_; (with_reducible refine (cubitref03_bit.calls a0 x6_2 t194 _ A7.out).mono ?_); rintro e w' ⟨rfl, ⟨nd, rfl⟩⟩; refine ⟨_, rfl, ?_⟩))
                go_roundg k2
                case measure => have := HJ2.out; have := HK2.out; omega
                case rel => exact ⟨(wrap64 (x6_2 + 1)), (by first | rfl | (simp; done) | (simp [*]; done)), H', ⟨by have := HJ2.out; have := HK2.out; omega⟩, by repeat (first | exact Drawn0.refl _ | apply Drawn0.step)⟩
            · rw [if_neg c6] at H
              have c6b0 : decide (x6_2 < 64) = false := decide_eq_false c6
              clear c6
              have H' := Aside0.mk H
              clear H
              go_wp2
              go_loopg [7, 8] k2 (fun kq v7 v8 w' => ∃ (x7_3 : ByteArray) (x8_3 : Int), v7 = .string x7_3 ∧ v8 = .int .i64 x8_3 ∧ Aside0 (cubitref03_Text.l1 kq a0 x7_3 x8_3 = some (r1, r2)) ∧ Aside0 (kq ≤ k2) ∧ Drawn0 w w')
              case atStart => exact ⟨((⟨#[]⟩ : ByteArray)), (wrap64 (a1 - 1)), (by first | rfl | (simp; done) | (simp [*]; done)), (by first | rfl | (simp; done) | (simp [*]; done)), H', ⟨Nat.le_refl _⟩, by repeat (first | exact Drawn0.refl _ | apply Drawn0.step)⟩
              case round =>
                clear H'
                try clear c1
                try clear c2
                try clear p2
                try clear c4
                try clear c4b0
                try clear c5
                try clear c6
                try clear c6b0
                try clear p6
                try clear c8
                try clear c8b0
                try clear c8b1
                try clear p2
                obtain ⟨x7_3, x8_3, rfl, rfl, HA, HK3, ⟨m3, rfl⟩⟩ := hrel
                cases gk with
                | zero => exact absurd HA.out (by simp [cubitref03_Text.l1])
                | succ k3 =>
                  have H := HA.out
                  clear HA
                  simp only [cubitref03_Text.l1] at H
                  by_cases c9 : x8_3 ≥ 0
                  · rw [if_pos c9] at H
                    have c9b0 : decide (0 ≤ x8_3) = true := decide_eq_true c9
                    clear c9
                    replace H := Option.bind_eq_some_iff.mp H
                    obtain ⟨t195, A100, H⟩ := H
                    replace H : (if t195 = 1 then (if x7_3.size + 1 ≤ 9223372036854775807 then (cubitref03_Text.l1 k3 a0 (x7_3 ++ (⟨#[49]⟩ : ByteArray)) (wrap64 (x8_3 - 1))) else (none)) else (if x7_3.size + 1 ≤ 9223372036854775807 then (cubitref03_Text.l1 k3 a0 (x7_3 ++ (⟨#[48]⟩ : ByteArray)) (wrap64 (x8_3 - 1))) else (none))) = some (r1, r2) := H
                    have A10 := Aside0.mk A100
                    clear A100
                    by_cases c11 : t195 = 1
                    · rw [if_pos c11] at H
                      have c11b0 : (t195 == 1) = true := beq_iff_eq.mpr c11
                      have c11b1 : (t195 != 1) = false := bne_eq_false_iff_eq.mpr c11
                      clear c11
                      by_cases c12 : x7_3.size + 1 ≤ 9223372036854775807
                      · rw [if_pos c12] at H
                        have c12b0 := eq_true c12
                        have c12b1 : decide (x7_3.size + 1 ≤ 9223372036854775807) = true := decide_eq_true c12
                        try have c12b2 : (9223372036854775807 < x7_3.size + 1) = False := eq_false (Nat.not_lt.2 c12)
                        have H' := Aside0.mk H
                        clear H
                        go_wp2_with (first | ((with_reducible refine gate_callee (f := 40) rfl ?_); refine goesL_ (some 32) rfl rfl Tryd.func40 (by kernel_rfl) rfl #[.int .u64 a0, .int .i64 x8_3] rfl (by (try simp only [List.map_toArray, List.map_cons, List.map_nil]); first | done | rfl | (simp only [List.length_drop, List.length_take]; rfl)) ?_; (with_reducible refine (cubitref03_bit.calls a0 x8_3 t195 _ A10.out).mono ?_); rintro e w' ⟨rfl, ⟨nd, rfl⟩⟩; refine ⟨_, rfl, ?_⟩))
                        go_roundg k3
                        case measure => have := HJ2.out; have := HK2.out; have := HK3.out; omega
                        case rel => exact ⟨(x7_3 ++ (⟨#[49]⟩ : ByteArray)), (wrap64 (x8_3 - 1)), (by first | rfl | (simp; done) | (simp [*]; done)), (by first | rfl | (simp; done) | (simp [*]; done)), H', ⟨by have := HJ2.out; have := HK2.out; have := HK3.out; omega⟩, by repeat (first | exact Drawn0.refl _ | apply Drawn0.step)⟩
                      · rw [if_neg c12] at H
                        exact absurd H (by simp)
                    · rw [if_neg c11] at H
                      have c11b0 : (t195 == 1) = false := beq_eq_false_iff_ne.mpr c11
                      have c11b1 : (t195 != 1) = true := bne_iff_ne.mpr c11
                      by_cases c13 : x7_3.size + 1 ≤ 9223372036854775807
                      · rw [if_pos c13] at H
                        have c13b0 := eq_true c13
                        have c13b1 : decide (x7_3.size + 1 ≤ 9223372036854775807) = true := decide_eq_true c13
                        try have c13b2 : (9223372036854775807 < x7_3.size + 1) = False := eq_false (Nat.not_lt.2 c13)
                        have H' := Aside0.mk H
                        clear H
                        go_wp2_with (first | ((with_reducible refine gate_callee (f := 40) rfl ?_); refine goesL_ (some 32) rfl rfl Tryd.func40 (by kernel_rfl) rfl #[.int .u64 a0, .int .i64 x8_3] rfl (by (try simp only [List.map_toArray, List.map_cons, List.map_nil]); first | done | rfl | (simp only [List.length_drop, List.length_take]; rfl)) ?_; (with_reducible refine (cubitref03_bit.calls a0 x8_3 t195 _ A10.out).mono ?_); rintro e w' ⟨rfl, ⟨nd, rfl⟩⟩; refine ⟨_, rfl, ?_⟩))
                        go_roundg k3
                        case measure => have := HJ2.out; have := HK2.out; have := HK3.out; omega
                        case rel => exact ⟨(x7_3 ++ (⟨#[48]⟩ : ByteArray)), (wrap64 (x8_3 - 1)), (by first | rfl | (simp; done) | (simp [*]; done)), (by first | rfl | (simp; done) | (simp [*]; done)), H', ⟨by have := HJ2.out; have := HK2.out; have := HK3.out; omega⟩, by repeat (first | exact Drawn0.refl _ | apply Drawn0.step)⟩
                      · rw [if_neg c13] at H
                        exact absurd H (by simp)
                  · rw [if_neg c9] at H
                    have c9b0 : decide (0 ≤ x8_3) = false := decide_eq_false c9
                    clear c9
                    simp only [Option.some.injEq, Prod.mk.injEq] at H
                    obtain ⟨rfl, rfl⟩ := H
                    go_wp2
                    go_ret2
                    exact ⟨by first | rfl | (simp; done) | (simp [*]; done), by repeat (first | exact Drawn0.refl _ | apply Drawn0.step)⟩

/-! ### cubitref03_Parse: function 18 -/
def cubitref03_Parse.l0 : Nat → ByteArray → Int → Int → Option (Int × Int × Int)
  | 0, _, _, _ => none
  | k + 1, x0, x5, x6 => if x6 < (x0.size : Int) then (if 0 ≤ x6 then (if (bt x0 x6) = 48 then ((cubitref03_set.f x5 (wrap64 ((wrap64 ((x0.size : Int) - 1)) - x6)) (((bt x0 x6) - 48) % 256)).bind fun t196 => (cubitref03_Parse.l0 k x0 t196 (wrap64 (x6 + 1)))) else (if (bt x0 x6) = 49 then ((cubitref03_set.f x5 (wrap64 ((wrap64 ((x0.size : Int) - 1)) - x6)) (((bt x0 x6) - 48) % 256)).bind fun t197 => (cubitref03_Parse.l0 k x0 t197 (wrap64 (x6 + 1)))) else (some (0, 0, 22)))) else (none)) else (some (x5, (x0.size : Int), 0))
def cubitref03_Parse.f (k : Nat) (a0 : ByteArray) : Option (Int × Int × Int) := if (a0.size : Int) > 64 then (some (0, 0, 1)) else (cubitref03_Parse.l0 k a0 0 0)
theorem cubitref03_Parse.mono_l : ∀ k, (∀ y0 y1 y2, LeO (cubitref03_Parse.l0 k y0 y1 y2) (cubitref03_Parse.l0 (k + 1) y0 y1 y2))
  | 0 => fun _ _ _ r h => by simp [cubitref03_Parse.l0] at h
  | k + 1 => by
    have ih0 := cubitref03_Parse.mono_l k
    · intro y0 y1 y2
      unfold cubitref03_Parse.l0
      repeat' first
      | (with_reducible exact ih0 _ _ _)
      | (with_reducible exact LeO.refl _)
      | (with_reducible exact LeO.none _)
      | (with_reducible refine LeO.ite ?_ ?_)
      | (with_reducible refine LeO.bind ?_ (fun _ => ?_))
      | exact ih0 _ _ _
      | exact LeO.none _
      | refine LeO.ite ?_ ?_
      | refine LeO.bind ?_ (fun _ => ?_)
theorem cubitref03_Parse.mono : ∀ a0 k, LeO (cubitref03_Parse.f k a0) (cubitref03_Parse.f (k + 1) a0) := by
  intro a0 k
  have ih0 := cubitref03_Parse.mono_l k
  unfold cubitref03_Parse.f
  repeat' first
      | (with_reducible exact ih0 _ _ _)
      | (with_reducible exact LeO.refl _)
      | (with_reducible exact LeO.none _)
      | (with_reducible refine LeO.ite ?_ ?_)
      | (with_reducible refine LeO.bind ?_ (fun _ => ?_))
      | exact ih0 _ _ _
      | exact LeO.none _
      | refine LeO.ite ?_ ?_
      | refine LeO.bind ?_ (fun _ => ?_)
set_option maxHeartbeats 8000000 in
set_option maxRecDepth 100000 in
theorem cubitref03_Parse.calls (k : Nat) (a0 : ByteArray) (r1 : Int) (r2 : Int) (r3 : Int) (w : World) (h : cubitref03_Parse.f k a0 = some (r1, r2, r3)) :
    Calls Tryd.prog 18 #[.string a0] w fun e w' => e = .returned (.tuple #[.int .u64 r1, .int .i64 r2, .int .i64 r3]) ∧ Drawn0 w w' := by
  have H : (if (a0.size : Int) > 64 then (some (0, 0, 1)) else (cubitref03_Parse.l0 k a0 0 0)) = some (r1, r2, r3) := h
  clear h
  by_cases c2 : (a0.size : Int) > 64
  · rw [if_pos c2] at H
    have c2b0 : decide (64 < (a0.size : Int)) = true := decide_eq_true c2
    have c2b1 : decide (64 < a0.size) = true := decide_eq_true (by omega)
    clear c2
    simp only [Option.some.injEq, Prod.mk.injEq] at H
    obtain ⟨rfl, rfl, rfl⟩ := H
    go_enter Tryd.func18, Tryd.ntmps18
    go_wp2
    go_ret3
    exact ⟨by first | rfl | (simp; done) | (simp [*]; done), by repeat (first | exact Drawn0.refl _ | apply Drawn0.step)⟩
  · rw [if_neg c2] at H
    have c2b0 : decide (64 < (a0.size : Int)) = false := decide_eq_false c2
    have c2b1 : decide (64 < a0.size) = false := decide_eq_false (by omega)
    clear c2
    have H' := Aside0.mk H
    clear H
    go_enter Tryd.func18, Tryd.ntmps18
    go_wp2
    go_loopg [5, 6] k (fun kq v5 v6 w' => ∃ (x5_1 : Int) (x6_1 : Int), v5 = .int .u64 x5_1 ∧ v6 = .int .i64 x6_1 ∧ Aside0 (cubitref03_Parse.l0 kq a0 x5_1 x6_1 = some (r1, r2, r3)) ∧ Aside0 (kq ≤ k) ∧ Drawn0 w w')
    case atStart => exact ⟨(0), (0), (by first | rfl | (simp; done) | (simp [*]; done)), (by first | rfl | (simp; done) | (simp [*]; done)), H', ⟨Nat.le_refl _⟩, by repeat (first | exact Drawn0.refl _ | apply Drawn0.step)⟩
    case round =>
      clear H'
      try clear c1
      try clear c2
      try clear c2b0
      try clear c2b1
      try clear p2
      obtain ⟨x5_1, x6_1, rfl, rfl, HA, HK1, ⟨m1, rfl⟩⟩ := hrel
      cases gk with
      | zero => exact absurd HA.out (by simp [cubitref03_Parse.l0])
      | succ k1 =>
        have H := HA.out
        clear HA
        simp only [cubitref03_Parse.l0] at H
        by_cases c3 : x6_1 < (a0.size : Int)
        · rw [if_pos c3] at H
          have c3b0 : decide (x6_1 < (a0.size : Int)) = true := decide_eq_true c3
          clear c3
          by_cases c4 : 0 ≤ x6_1
          · rw [if_pos c4] at H
            have c4b0 : decide (0 ≤ x6_1) = true := decide_eq_true c4
            clear c4
            by_cases c6 : (bt a0 x6_1) = 48
            · rw [if_pos c6] at H
              have c6b0 : ((bt a0 x6_1) == 48) = true := beq_iff_eq.mpr c6
              have c6b1 : ((bt a0 x6_1) != 48) = false := bne_eq_false_iff_eq.mpr c6
              clear c6
              replace H := Option.bind_eq_some_iff.mp H
              obtain ⟨t196, A80, H⟩ := H
              replace H : (cubitref03_Parse.l0 k1 a0 t196 (wrap64 (x6_1 + 1))) = some (r1, r2, r3) := H
              have A8 := Aside0.mk A80
              clear A80
              have H' := Aside0.mk H
              clear H
              have p5 : 0 ≤ (x6_1 : Int) := of_decide_eq_true (by first | (with_reducible assumption) | assumption)
              have q5 : x6_1 < (a0.size : Int) := of_decide_eq_true (by first | (with_reducible assumption) | assumption)
              have hx5 := bt_at a0 x6_1
              replace p5 := eq_true p5
              replace q5 := eq_true q5
              have p7 : 0 ≤ (x6_1 : Int) := of_decide_eq_true (by first | (with_reducible assumption) | assumption)
              have q7 : x6_1 < (a0.size : Int) := of_decide_eq_true (by first | (with_reducible assumption) | assumption)
              have hx7 := bt_at a0 x6_1
              replace p7 := eq_true p7
              replace q7 := eq_true q7
              go_wp2_with (first | ((with_reducible refine gate_callee (f := 39) rfl ?_); refine goesL_ (some 37) rfl rfl Tryd.func39 (by kernel_rfl) rfl #[.int .u64 x5_1, .int .i64 (wrap64 ((wrap64 ((a0.size : Int) - 1)) - x6_1)), .int .i64 (((bt a0 x6_1) - 48) % 256)] rfl (by (try simp only [List.map_toArray, List.map_cons, List.map_nil]); first | done | rfl | (simp only [List.length_drop, List.length_take]; rfl)) ?_; (with_reducible refine (cubitref03_set.calls x5_1 (wrap64 ((wrap64 ((a0.size : Int) - 1)) - x6_1)) (((bt a0 x6_1) - 48) % 256) t196 _ A8.out).mono ?_); rintro e w' ⟨rfl, ⟨nd, rfl⟩⟩; refine ⟨_, rfl, ?_⟩))
              go_roundg k1
              case measure => have := HK1.out; omega
              case rel => exact ⟨(t196), (wrap64 (x6_1 + 1)), (by first | rfl | (simp; done) | (simp [*]; done)), (by first | rfl | (simp; done) | (simp [*]; done)), H', ⟨by have := HK1.out; omega⟩, by repeat (first | exact Drawn0.refl _ | apply Drawn0.step)⟩
            · rw [if_neg c6] at H
              have c6b0 : ((bt a0 x6_1) == 48) = false := beq_eq_false_iff_ne.mpr c6
              have c6b1 : ((bt a0 x6_1) != 48) = true := bne_iff_ne.mpr c6
              by_cases c10 : (bt a0 x6_1) = 49
              · rw [if_pos c10] at H
                have c10b0 : ((bt a0 x6_1) == 49) = true := beq_iff_eq.mpr c10
                have c10b1 : ((bt a0 x6_1) != 49) = false := bne_eq_false_iff_eq.mpr c10
                clear c10
                replace H := Option.bind_eq_some_iff.mp H
                obtain ⟨t197, A120, H⟩ := H
                replace H : (cubitref03_Parse.l0 k1 a0 t197 (wrap64 (x6_1 + 1))) = some (r1, r2, r3) := H
                have A12 := Aside0.mk A120
                clear A120
                have H' := Aside0.mk H
                clear H
                have p5 : 0 ≤ (x6_1 : Int) := of_decide_eq_true (by first | (with_reducible assumption) | assumption)
                have q5 : x6_1 < (a0.size : Int) := of_decide_eq_true (by first | (with_reducible assumption) | assumption)
                have hx5 := bt_at a0 x6_1
                replace p5 := eq_true p5
                replace q5 := eq_true q5
                have p9 : 0 ≤ (x6_1 : Int) := of_decide_eq_true (by first | (with_reducible assumption) | assumption)
                have q9 : x6_1 < (a0.size : Int) := of_decide_eq_true (by first | (with_reducible assumption) | assumption)
                have hx9 := bt_at a0 x6_1
                replace p9 := eq_true p9
                replace q9 := eq_true q9
                have p11 : 0 ≤ (x6_1 : Int) := of_decide_eq_true (by first | (with_reducible assumption) | assumption)
                have q11 : x6_1 < (a0.size : Int) := of_decide_eq_true (by first | (with_reducible assumption) | assumption)
                have hx11 := bt_at a0 x6_1
                replace p11 := eq_true p11
                replace q11 := eq_true q11
                go_wp2_with (first | ((with_reducible refine gate_callee (f := 39) rfl ?_); refine goesL_ (some 37) rfl rfl Tryd.func39 (by kernel_rfl) rfl #[.int .u64 x5_1, .int .i64 (wrap64 ((wrap64 ((a0.size : Int) - 1)) - x6_1)), .int .i64 (((bt a0 x6_1) - 48) % 256)] rfl (by (try simp only [List.map_toArray, List.map_cons, List.map_nil]); first | done | rfl | (simp only [List.length_drop, List.length_take]; rfl)) ?_; (with_reducible refine (cubitref03_set.calls x5_1 (wrap64 ((wrap64 ((a0.size : Int) - 1)) - x6_1)) (((bt a0 x6_1) - 48) % 256) t197 _ A12.out).mono ?_); rintro e w' ⟨rfl, ⟨nd, rfl⟩⟩; refine ⟨_, rfl, ?_⟩))
                go_roundg k1
                case measure => have := HK1.out; omega
                case rel => exact ⟨(t197), (wrap64 (x6_1 + 1)), (by first | rfl | (simp; done) | (simp [*]; done)), (by first | rfl | (simp; done) | (simp [*]; done)), H', ⟨by have := HK1.out; omega⟩, by repeat (first | exact Drawn0.refl _ | apply Drawn0.step)⟩
              · rw [if_neg c10] at H
                have c10b0 : ((bt a0 x6_1) == 49) = false := beq_eq_false_iff_ne.mpr c10
                have c10b1 : ((bt a0 x6_1) != 49) = true := bne_iff_ne.mpr c10
                simp only [Option.some.injEq, Prod.mk.injEq] at H
                obtain ⟨rfl, rfl, rfl⟩ := H
                have p5 : 0 ≤ (x6_1 : Int) := of_decide_eq_true (by first | (with_reducible assumption) | assumption)
                have q5 : x6_1 < (a0.size : Int) := of_decide_eq_true (by first | (with_reducible assumption) | assumption)
                have hx5 := bt_at a0 x6_1
                replace p5 := eq_true p5
                replace q5 := eq_true q5
                have p9 : 0 ≤ (x6_1 : Int) := of_decide_eq_true (by first | (with_reducible assumption) | assumption)
                have q9 : x6_1 < (a0.size : Int) := of_decide_eq_true (by first | (with_reducible assumption) | assumption)
                have hx9 := bt_at a0 x6_1
                replace p9 := eq_true p9
                replace q9 := eq_true q9
                go_wp2
                go_ret3
                exact ⟨by first | rfl | (simp; done) | (simp [*]; done), by repeat (first | exact Drawn0.refl _ | apply Drawn0.step)⟩
          · rw [if_neg c4] at H
            exact absurd H (by simp)
        · rw [if_neg c3] at H
          have c3b0 : decide (x6_1 < (a0.size : Int)) = false := decide_eq_false c3
          clear c3
          simp only [Option.some.injEq, Prod.mk.injEq] at H
          obtain ⟨rfl, rfl, rfl⟩ := H
          go_wp2
          go_ret3
          exact ⟨by first | rfl | (simp; done) | (simp [*]; done), by repeat (first | exact Drawn0.refl _ | apply Drawn0.step)⟩

/-! ### bits_Parse: function 19 -/
def bits_Parse.l0 : Nat → ByteArray → Int → Int → Int → Option (Int × Int × Int)
  | 0, _, _, _, _ => none
  | k + 1, x0, x5, x11, x12 => if x12 < x11 then (if 0 ≤ x12 then (if x12 < (x0.size : Int) then (if (bt x0 x12) = 48 then (bits_Parse.l0 k x0 (Go.bits .or .u64 (IntKind.u64.wrap (x5 * 2)) (((bt x0 x12) - 48) % 256)) x11 (wrap64 (x12 + 1))) else (if (bt x0 x12) = 49 then (bits_Parse.l0 k x0 (Go.bits .or .u64 (IntKind.u64.wrap (x5 * 2)) (((bt x0 x12) - 48) % 256)) x11 (wrap64 (x12 + 1))) else (some (0, 0, 22)))) else (none)) else (none)) else (some (x5, (x0.size : Int), 0))
def bits_Parse.f (k : Nat) (a0 : ByteArray) : Option (Int × Int × Int) := if (a0.size : Int) > 64 then (some (0, 0, 1)) else (bits_Parse.l0 k a0 0 (a0.size : Int) 0)
theorem bits_Parse.mono_l : ∀ k, (∀ y0 y1 y2 y3, LeO (bits_Parse.l0 k y0 y1 y2 y3) (bits_Parse.l0 (k + 1) y0 y1 y2 y3))
  | 0 => fun _ _ _ _ r h => by simp [bits_Parse.l0] at h
  | k + 1 => by
    have ih0 := bits_Parse.mono_l k
    · intro y0 y1 y2 y3
      unfold bits_Parse.l0
      repeat' first
      | (with_reducible exact ih0 _ _ _ _)
      | (with_reducible exact LeO.refl _)
      | (with_reducible exact LeO.none _)
      | (with_reducible refine LeO.ite ?_ ?_)
      | (with_reducible refine LeO.bind ?_ (fun _ => ?_))
      | exact ih0 _ _ _ _
      | exact LeO.none _
      | refine LeO.ite ?_ ?_
      | refine LeO.bind ?_ (fun _ => ?_)
theorem bits_Parse.mono : ∀ a0 k, LeO (bits_Parse.f k a0) (bits_Parse.f (k + 1) a0) := by
  intro a0 k
  have ih0 := bits_Parse.mono_l k
  unfold bits_Parse.f
  repeat' first
      | (with_reducible exact ih0 _ _ _ _)
      | (with_reducible exact LeO.refl _)
      | (with_reducible exact LeO.none _)
      | (with_reducible refine LeO.ite ?_ ?_)
      | (with_reducible refine LeO.bind ?_ (fun _ => ?_))
      | exact ih0 _ _ _ _
      | exact LeO.none _
      | refine LeO.ite ?_ ?_
      | refine LeO.bind ?_ (fun _ => ?_)
set_option maxHeartbeats 8000000 in
set_option maxRecDepth 100000 in
theorem bits_Parse.calls (k : Nat) (a0 : ByteArray) (r1 : Int) (r2 : Int) (r3 : Int) (w : World) (h : bits_Parse.f k a0 = some (r1, r2, r3)) :
    Calls Tryd.prog 19 #[.string a0] w fun e w' => e = .returned (.tuple #[.int .u64 r1, .int .i64 r2, .int .i64 r3]) ∧ Drawn0 w w' := by
  have H : (if (a0.size : Int) > 64 then (some (0, 0, 1)) else (bits_Parse.l0 k a0 0 (a0.size : Int) 0)) = some (r1, r2, r3) := h
  clear h
  by_cases c2 : (a0.size : Int) > 64
  · rw [if_pos c2] at H
    have c2b0 : decide (64 < (a0.size : Int)) = true := decide_eq_true c2
    have c2b1 : decide (64 < a0.size) = true := decide_eq_true (by omega)
    clear c2
    simp only [Option.some.injEq, Prod.mk.injEq] at H
    obtain ⟨rfl, rfl, rfl⟩ := H
    go_enter Tryd.func19, Tryd.ntmps19
    go_wp2
    go_ret3
    exact ⟨by first | rfl | (simp; done) | (simp [*]; done), by repeat (first | exact Drawn0.refl _ | apply Drawn0.step)⟩
  · rw [if_neg c2] at H
    have c2b0 : decide (64 < (a0.size : Int)) = false := decide_eq_false c2
    have c2b1 : decide (64 < a0.size) = false := decide_eq_false (by omega)
    clear c2
    have H' := Aside0.mk H
    clear H
    go_enter Tryd.func19, Tryd.ntmps19
    go_wp2
    go_loopg [5, 12] k (fun kq v5 v12 w' => ∃ (x5_1 : Int) (x12_1 : Int), v5 = .int .u64 x5_1 ∧ v12 = .int .i64 x12_1 ∧ Aside0 (bits_Parse.l0 kq a0 x5_1 (a0.size : Int) x12_1 = some (r1, r2, r3)) ∧ Aside0 (kq ≤ k) ∧ Drawn0 w w')
    case atStart => exact ⟨(0), (0), (by first | rfl | (simp; done) | (simp [*]; done)), (by first | rfl | (simp; done) | (simp [*]; done)), H', ⟨Nat.le_refl _⟩, by repeat (first | exact Drawn0.refl _ | apply Drawn0.step)⟩
    case round =>
      clear H'
      try clear c1
      try clear c2
      try clear c2b0
      try clear c2b1
      try clear p2
      obtain ⟨x5_1, x12_1, rfl, rfl, HA, HK1, ⟨m1, rfl⟩⟩ := hrel
      cases gk with
      | zero => exact absurd HA.out (by simp [bits_Parse.l0])
      | succ k1 =>
        have H := HA.out
        clear HA
        simp only [bits_Parse.l0] at H
        by_cases c3 : x12_1 < (a0.size : Int)
        · rw [if_pos c3] at H
          have c3b0 : decide (x12_1 < (a0.size : Int)) = true := decide_eq_true c3
          clear c3
          by_cases c4 : 0 ≤ x12_1
          · rw [if_pos c4] at H
            have c4b0 : decide (0 ≤ x12_1) = true := decide_eq_true c4
            clear c4
            by_cases c5 : x12_1 < (a0.size : Int)
            · rw [if_pos c5] at H
              have c5b0 : decide (x12_1 < (a0.size : Int)) = true := decide_eq_true c5
              clear c5
              by_cases c7 : (bt a0 x12_1) = 48
              · rw [if_pos c7] at H
                have c7b0 : ((bt a0 x12_1) == 48) = true := beq_iff_eq.mpr c7
                have c7b1 : ((bt a0 x12_1) != 48) = false := bne_eq_false_iff_eq.mpr c7
                clear c7
                have H' := Aside0.mk H
                clear H
                have p6 : 0 ≤ (x12_1 : Int) := of_decide_eq_true (by first | (with_reducible assumption) | assumption)
                have q6 : x12_1 < (a0.size : Int) := of_decide_eq_true (by first | (with_reducible assumption) | assumption)
                have hx6 := bt_at a0 x12_1
                replace p6 := eq_true p6
                replace q6 := eq_true q6
                have p8 : 0 ≤ (x12_1 : Int) := of_decide_eq_true (by first | (with_reducible assumption) | assumption)
                have q8 : x12_1 < (a0.size : Int) := of_decide_eq_true (by first | (with_reducible assumption) | assumption)
                have hx8 := bt_at a0 x12_1
                replace p8 := eq_true p8
                replace q8 := eq_true q8
                go_wp2
                go_roundg k1
                case measure => have := HK1.out; omega
                case rel => exact ⟨(Go.bits .or .u64 (IntKind.u64.wrap (x5_1 * 2)) (((bt a0 x12_1) - 48) % 256)), (wrap64 (x12_1 + 1)), (by first | rfl | (simp; done) | (simp [*]; done)), (by first | rfl | (simp; done) | (simp [*]; done)), H', ⟨by have := HK1.out; omega⟩, by repeat (first | exact Drawn0.refl _ | apply Drawn0.step)⟩
              · rw [if_neg c7] at H
                have c7b0 : ((bt a0 x12_1) == 48) = false := beq_eq_false_iff_ne.mpr c7
                have c7b1 : ((bt a0 x12_1) != 48) = true := bne_iff_ne.mpr c7
                by_cases c10 : (bt a0 x12_1) = 49
                · rw [if_pos c10] at H
                  have c10b0 : ((bt a0 x12_1) == 49) = true := beq_iff_eq.mpr c10
                  have c10b1 : ((bt a0 x12_1) != 49) = false := bne_eq_false_iff_eq.mpr c10
                  clear c10
                  have H' := Aside0.mk H
                  clear H
                  have p6 : 0 ≤ (x12_1 : Int) := of_decide_eq_true (by first | (with_reducible assumption) | assumption)
                  have q6 : x12_1 < (a0.size : Int) := of_decide_eq_true (by first | (with_reducible assumption) | assumption)
                  have hx6 := bt_at a0 x12_1
                  replace p6 := eq_true p6
                  replace q6 := eq_true q6
                  have p9 : 0 ≤ (x12_1 : Int) := of_decide_eq_true (by first | (with_reducible assumption) | assumption)
                  have q9 : x12_1 < (a0.size : Int) := of_decide_eq_true (by first | (with_reducible assumption) | assumption)
                  have hx9 := bt_at a0 x12_1
                  replace p9 := eq_true p9
                  replace q9 := eq_true q9
                  have p11 : 0 ≤ (x12_1 : Int) := of_decide_eq_true (by first | (with_reducible assumption) | assumption)
                  have q11 : x12_1 < (a0.size : Int) := of_decide_eq_true (by first | (with_reducible assumption) | assumption)
                  have hx11 := bt_at a0 x12_1
                  replace p11 := eq_true p11
                  replace q11 := eq_true q11
                  go_wp2
                  go_roundg k1
                  case measure => have := HK1.out; omega
                  case rel => exact ⟨(Go.bits .or .u64 (IntKind.u64.wrap (x5_1 * 2)) (((bt a0 x12_1) - 48) % 256)), (wrap64 (x12_1 + 1)), (by first | rfl | (simp; done) | (simp [*]; done)), (by first | rfl | (simp; done) | (simp [*]; done)), H', ⟨by have := HK1.out; omega⟩, by repeat (first | exact Drawn0.refl _ | apply Drawn0.step)⟩
                · rw [if_neg c10] at H
                  have c10b0 : ((bt a0 x12_1) == 49) = false := beq_eq_false_iff_ne.mpr c10
                  have c10b1 : ((bt a0 x12_1) != 49) = true := bne_iff_ne.mpr c10
                  simp only [Option.some.injEq, Prod.mk.injEq] at H
                  obtain ⟨rfl, rfl, rfl⟩ := H
                  have p6 : 0 ≤ (x12_1 : Int) := of_decide_eq_true (by first | (with_reducible assumption) | assumption)
                  have q6 : x12_1 < (a0.size : Int) := of_decide_eq_true (by first | (with_reducible assumption) | assumption)
                  have hx6 := bt_at a0 x12_1
                  replace p6 := eq_true p6
                  replace q6 := eq_true q6
                  have p9 : 0 ≤ (x12_1 : Int) := of_decide_eq_true (by first | (with_reducible assumption) | assumption)
                  have q9 : x12_1 < (a0.size : Int) := of_decide_eq_true (by first | (with_reducible assumption) | assumption)
                  have hx9 := bt_at a0 x12_1
                  replace p9 := eq_true p9
                  replace q9 := eq_true q9
                  go_wp2
                  go_ret3
                  exact ⟨by first | rfl | (simp; done) | (simp [*]; done), by repeat (first | exact Drawn0.refl _ | apply Drawn0.step)⟩
            · rw [if_neg c5] at H
              exact absurd H (by simp)
          · rw [if_neg c4] at H
            exact absurd H (by simp)
        · rw [if_neg c3] at H
          have c3b0 : decide (x12_1 < (a0.size : Int)) = false := decide_eq_false c3
          clear c3
          simp only [Option.some.injEq, Prod.mk.injEq] at H
          obtain ⟨rfl, rfl, rfl⟩ := H
          go_wp2
          go_ret3
          exact ⟨by first | rfl | (simp; done) | (simp [*]; done), by repeat (first | exact Drawn0.refl _ | apply Drawn0.step)⟩

end Go.Proofs.YtoebcbhadcpcoaaDoor.PA
