/- What wakes the laws of layer 1, at its own numbers. -/
import Derived.Test.YtknenddcighbpaaCxA
import Derived.Laws.Externs
namespace Go.Proofs.Ytknenddcighbpaa.CX
open Go.RowKit Go.Proofs.Ytknenddcighbpaa.F
set_option linter.unusedVariables false
set_option linter.unusedSimpArgs false
attribute [local go_sem] run_real run_imag run_complex run_fneg
theorem run_bits (p : Nat) (w : World) : Sem.run Try.prog (callFunc 19 #[.float .f64 p]) w = .ok (.value (.int .u64 p)) w := by
  rw [run_callFunc_extern (e := Extern.MathFloatBits.float64bits) Try.func19 (by decide +kernel) (by kernel_rfl) (by kernel_rfl) (by kernel_rfl)]
  rfl
theorem run_frombits (n : Int) (w : World) : Sem.run Try.prog (callFunc 22 #[.int .u64 n]) w = .ok (.value (.float .f64 n.toNat)) w := by
  rw [run_callFunc_extern (e := Extern.MathFloatBits.float64frombits) Try.func22 (by decide +kernel) (by kernel_rfl) (by kernel_rfl) (by kernel_rfl)]
  rfl
attribute [local go_sem] run_bits run_frombits
theorem ord_nan : (FloatKind.f64.format.order 9221120237041090561 9221120237041090561 != some Ordering.eq) = true := by decide +kernel
set_option maxRecDepth 100000 in
set_option maxHeartbeats 1000000 in
theorem IsNaN_calls (w : World) : Calls Try.prog 21 #[.float .f64 9221120237041090561] w fun e w' => e = .returned (.bool true) ∧ w' = w := by
  have h := ord_nan
  go_enter Try.func21, Try.ntmps21
  go_wp2
  go_ret
  exact ⟨by simp [ord_nan], rfl⟩
theorem inf_nan : (FloatKind.f64.format.order (bits BinOp.andNot IntKind.u64 ((9221120237041090561 : Nat) : Int) 9223372036854775808).toNat 9218868437227405311 == some Ordering.gt) = false := by decide +kernel
theorem inf_zero : (FloatKind.f64.format.order (bits BinOp.andNot IntKind.u64 ((0 : Nat) : Int) 9223372036854775808).toNat 9218868437227405311 == some Ordering.gt) = false := by decide +kernel
set_option maxRecDepth 100000 in
set_option maxHeartbeats 1000000 in
theorem IsInf_calls (p : Nat) (w : World) (hp : (FloatKind.f64.format.order (bits BinOp.andNot IntKind.u64 ((p : Nat) : Int) 9223372036854775808).toNat 9218868437227405311 == some Ordering.gt) = false) :
    Calls Try.prog 20 #[.float .f64 p, .int .i64 0] w fun e w' => e = .returned (.bool false) ∧ w' = w := by
  go_enter Try.func20, Try.ntmps20
  go_wp2
  go_ret
  exact ⟨by simp [hp], rfl⟩
set_option maxRecDepth 100000 in
set_option maxHeartbeats 1000000 in
theorem alike_calls (p : Nat) (w : World) : Calls Try.prog 18 #[.float .f64 p, .float .f64 p] w fun e w' => e = .returned (.bool true) ∧ w' = w := by
  go_enter Try.func18, Try.ntmps18
  go_wp2
  all_goals go_ret
  all_goals exact ⟨by simp [*], rfl⟩
set_option maxRecDepth 100000 in
set_option maxHeartbeats 1000000 in
theorem same_calls (a b : Nat) (w : World) : Calls Try.prog 13 #[.complex .f64 a b, .complex .f64 a b] w fun e w' => e = .returned (.bool true) ∧ w' = w := by
  go_enter Try.func13, Try.ntmps13
  go_wp2_with (first | (go_at_call 18; (with_reducible refine (alike_calls a _).mono ?_); rintro e w' ⟨rfl, rfl⟩) | (go_at_call 18; (with_reducible refine (alike_calls b _).mono ?_); rintro e w' ⟨rfl, rfl⟩))
  go_ret
  exact ⟨rfl, rfl⟩
set_option maxRecDepth 100000 in
set_option maxHeartbeats 1000000 in
theorem Signbit_calls (w : World) : Calls Try.prog 14 #[.float .f64 9223372036854775808] w fun e w' => e = .returned (.bool true) ∧ w' = w := by
  have h : decide (wrap64 9223372036854775808 < 0) = true := by decide +kernel
  go_enter Try.func14, Try.ntmps14
  go_wp2
  go_ret
  exact ⟨by simp [h], rfl⟩
set_option maxRecDepth 100000 in
set_option maxHeartbeats 1000000 in
theorem NaN_calls (w : World) : Calls Try.prog 16 #[] w fun e w' => e = .returned (.float .f64 9221120237041090561) ∧ w' = w := by
  go_enter Try.func16, Try.ntmps16
  go_wp2
  go_ret
  exact ⟨rfl, rfl⟩
set_option maxRecDepth 100000 in
set_option maxHeartbeats 1000000 in
theorem Kind_calls (w : World) : Calls Try.prog 15 #[.complex .f64 9221120237041090561 0] w fun e w' => e = .returned (.int .i64 2) ∧ w' = w := by
  go_enter Try.func15, Try.ntmps15
  go_wp2_with (first | (go_at_call 20; (with_reducible refine (IsInf_calls 9221120237041090561 _ inf_nan).mono ?_); rintro e w' ⟨rfl, rfl⟩) | (go_at_call 20; (with_reducible refine (IsInf_calls 0 _ inf_zero).mono ?_); rintro e w' ⟨rfl, rfl⟩) | (go_at_call 21; (with_reducible refine (IsNaN_calls _).mono ?_); rintro e w' ⟨rfl, rfl⟩))
  all_goals go_ret
  all_goals exact ⟨rfl, rfl⟩
set_option maxRecDepth 100000 in
set_option maxHeartbeats 1000000 in
theorem awake_calls (w : World) : Calls Try.prog 4 #[] w fun e w' => e = .returned (.bool true) ∧ w' = w := by
  have hmul := Mul_words 4607182418800017408 4611686018427387904 4613937818241073152 4616189618054758400 4613937818241073152 4620693217682128896 4616189618054758400 4618441417868443648 13840687554816376832 4621819117588971520 (by decide +kernel) (by decide +kernel) (by decide +kernel) (by decide +kernel) (by decide +kernel) (by decide +kernel)
  go_enter Try.func4, Try.ntmps4
  go_wp2_with (first | (go_at_call 6; (with_reducible refine (hmul _).mono ?_); rintro e w' ⟨rfl, rfl⟩) | (go_at_call 13; (with_reducible refine (same_calls _ _ _).mono ?_); rintro e w' ⟨rfl, rfl⟩) | (go_at_call 9; (with_reducible refine (Conj_calls _ _ _).mono ?_); rintro e w' ⟨rfl, rfl⟩) | (go_at_call 14; (with_reducible refine (Signbit_calls _).mono ?_); rintro e w' ⟨rfl, rfl⟩) | (go_at_call 16; (with_reducible refine (NaN_calls _).mono ?_); rintro e w' ⟨rfl, rfl⟩) | (go_at_call 15; (with_reducible refine (Kind_calls _).mono ?_); rintro e w' ⟨rfl, rfl⟩))
  go_ret
  exact ⟨rfl, rfl⟩
end Go.Proofs.Ytknenddcighbpaa.CX
