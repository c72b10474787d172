/- Floats and whole numbers: math's functions, walked. -/
import Derived.Test.YtlobgpgdknjhlaaGreatFloM
import Derived.Test.YtlobgpgdknjhlaaGreatCodB
import Derived.Test.YtlobgpgdknjhlaaGreatProg
import Derived.Below
import Derived.Tactics
import Derived.WalkKit
import Derived.ProofKit
import Derived.Laws.FloatArith
import Derived.Laws.Externs
import Derived.OwnWalk
import Derived.KernelRfl
import Derived.Lib.Hide
namespace Go.Proofs.YtlobgpgdknjhlaaGreat.F
open Ieee
theorem cut_zero (s : Bool) (n drop q : Nat) (h : n = q * 2 ^ drop) (hq : 0 < q) : Toward.zero.cut s n drop = q := by
  have hn : 0 < n := by rw [h]; exact Nat.mul_pos hq (Nat.two_pow_pos _)
  have hd : drop ≤ n.log2 := by
    rw [Nat.le_log2 (by omega), h]
    exact Nat.le_mul_of_pos_left _ hq
  have e : min drop (n.log2 + 2) = drop := Nat.min_eq_left (by omega)
  unfold Toward.cut
  have g : 1 <<< drop = 2 ^ drop := by rw [Nat.shiftLeft_eq, Nat.one_mul]
  have l : n / 2 ^ drop = q := by rw [h]; exact Nat.mul_div_cancel _ (Nat.two_pow_pos _)
  simp only [e, g, l]
  simp
theorem integral_fl {z : Int} (hz : z.natAbs < 2 ^ 53) : FloatKind.f64.encode ((FloatKind.f64.decode (Fl z)).integral .zero) = Fl z := by
  by_cases h0 : z = 0
  · subst h0
    decide +kernel
  · obtain ⟨s, m, p, hr, he⟩ := rep_fl hz
    have hm : m = z.natAbs * 2 ^ p := by
      have := congrArg Int.natAbs he
      rw [sg_natAbs, Int.natAbs_mul, Int.natAbs_natCast] at this
      exact this
    have hr' : FloatKind.f64.decode (Fl z) = .number s m (-(p : Int)) := hr
    rw [hr']
    unfold Datum.integral
    have e1 : (-(p : Int)).toNat = 0 := by omega
    have e2 : (- -(p : Int)).toNat = p := by omega
    simp only [e1, e2, Nat.shiftLeft_zero]
    rw [cut_zero s m p z.natAbs hm (by omega)]
    have h3 : sg s z.natAbs = z * ((2 ^ 0 : Nat) : Int) := by
      rw [sign_of he h0]
      exact sg_self z
    exact write_fl s z.natAbs 0 z h3 hz h0
end Go.Proofs.YtlobgpgdknjhlaaGreat.F
namespace Go.Proofs.YtlobgpgdknjhlaaGreat.WH
open Go Go.RowKit Go.Proofs.YtlobgpgdknjhlaaGreat.F
set_option linter.unusedVariables false
set_option linter.unusedSimpArgs false
theorem run137 (b : Nat) (w : World) : Sem.run Tryz.prog (callFunc 137 #[.float .f64 b]) w = .ok (.value (.int .u64 b)) w := by
  rw [run_callFunc_extern Tryz.func137 (by kernel_rfl) (by kernel_rfl) (by kernel_rfl) (by kernel_rfl : Extern.find Tryz.f137 = some Extern.MathFloatBits.float64bits)]
  rfl
theorem run136 (n : Nat) (w : World) : Sem.run Tryz.prog (callFunc 136 #[.int .u64 n]) w = .ok (.value (.float .f64 n)) w := by
  rw [run_callFunc_extern Tryz.func136 (by kernel_rfl) (by kernel_rfl) (by kernel_rfl) (by kernel_rfl : Extern.find Tryz.f136 = some Extern.MathFloatBits.float64frombits)]
  rfl
theorem run148 (z : Int) (hz : z.natAbs < 2 ^ 53) (w : World) : Sem.run Tryz.prog (callFunc 148 #[.float .f64 (Fl z)]) w = .ok (.value (.float .f64 (Fl z))) w := by
  rw [run_callFunc_extern Tryz.func148 (by kernel_rfl) (by kernel_rfl) (by kernel_rfl) (by kernel_rfl : Extern.find Tryz.f148 = some (Extern.MathFloor.toIntegral "math.archTrunc" .zero))]
  obtain ⟨s, m, p, hr, he⟩ := rep_fl hz
  have hr' : FloatKind.f64.decode (Fl z) = .number s m (-(p : Int)) := hr
  have hi := integral_fl hz
  rw [hr'] at hi
  change (Sem.run Tryz.prog (match FloatKind.f64.decode (Fl z) with
    | .nan s t =>
      if FloatKind.f64.format.quiet t = t then pure (Value.float .f64 (Fl z)) else do
      let kept ← choose (.extern "math.Floor,Ceil,Trunc,RoundToEven.signallingNaN kept" 2)
      pure (Value.float .f64 (if kept == 1 then (Fl z) else FloatKind.f64.encode (.nan s (FloatKind.f64.format.quiet t))))
    | d => pure (Value.float .f64 (FloatKind.f64.encode (d.integral .zero)))) w).andThen _ = _
  rw [hr']
  simp only [hi, Sem.run_pure, Result.andThen_ok]
set_option maxRecDepth 100000 in
theorem trunc_calls (z : Int) (hz : z.natAbs < 2 ^ 53) (w : World) : Calls Tryz.prog 134 #[.float .f64 (Fl z)] w fun e w' => e = .returned (.float .f64 (Fl z)) ∧ w' = w := by
  have h := run148 z hz
  go_enter Tryz.func134, Tryz.ntmps134
  go_wp2_with fail
  go_ret
  exact ⟨rfl, rfl⟩
theorem andNot_fl {z : Int} (hz : z.natAbs < 2 ^ 53) : Go.bits .andNot .u64 ((Fl z : Nat) : Int) 9223372036854775808 = ((Fl z.natAbs : Nat) : Int) := by
  by_cases h0 : z = 0
  · subst h0
    decide +kernel
  · have hL1 := Nat.lt_log2_self (n := z.natAbs)
    have hL3 : z.natAbs.log2 ≤ 52 := by
      have := (Nat.log2_lt (n := z.natAbs) (k := 53) (by omega)).2 hz
      omega
    have hk2 : z.natAbs * 2 ^ (52 - z.natAbs.log2) < 2 ^ 53 := by
      have := Nat.mul_lt_mul_of_pos_right hL1 (Nat.two_pow_pos (52 - z.natAbs.log2))
      rw [← Nat.pow_add, show z.natAbs.log2 + 1 + (52 - z.natAbs.log2) = 53 by omega] at this
      exact this
    have hz' : ((z.natAbs : Int)).natAbs < 2 ^ 53 := by simpa using hz
    rw [fl_word hz h0, fl_word hz' (by omega), Int.natAbs_natCast, decide_eq_false (show ¬ ((z.natAbs : Int) < 0) by omega)]
    have hR : (z.natAbs.log2 + 1022) * 2 ^ 52 + z.natAbs * 2 ^ (52 - z.natAbs.log2) < 2 ^ 63 := by omega
    generalize (z.natAbs.log2 + 1022) * 2 ^ 52 + z.natAbs * 2 ^ (52 - z.natAbs.log2) = R at *
    have hm : Ieee.double.word (decide (z < 0)) R % 2 ^ 63 = R ∧ Ieee.double.word (decide (z < 0)) R < 2 ^ 64 := by
      unfold Ieee.Format.word
      rw [sw_d]
      split <;> omega
    have hf : Ieee.double.word false R = R := by
      unfold Ieee.Format.word
      simp
    rw [hf]
    generalize Ieee.double.word (decide (z < 0)) R = a at hm ⊢
    obtain ⟨c, e, hc, hb⟩ := B.andNot_u (a := a) (b := 2 ^ 63) hm.2 (by decide)
    have e2 : ((2 ^ 63 : Nat) : Int) = 9223372036854775808 := by decide
    rw [e2] at e
    rw [e]
    congr 1
    rw [← hm.1]
    refine Nat.eq_of_testBit_eq fun i => ?_
    rw [hb, Nat.testBit_mod_two_pow, Nat.testBit_two_pow]
    by_cases h1 : i < 63
    · simp [h1, show ¬ 63 = i by omega]
    · by_cases h2 : 63 = i
      · simp [h1, h2]
      · have h3 : a.testBit i = false := Nat.testBit_lt_two_pow (Nat.lt_of_lt_of_le hm.2 (Nat.pow_le_pow_right (by decide) (by omega)))
        simp [h1, h3]
set_option maxRecDepth 100000 in
theorem abs_calls (z : Int) (hz : z.natAbs < 2 ^ 53) (w : World) : Calls Tryz.prog 119 #[.float .f64 (Fl z)] w fun e w' => e = .returned (.float .f64 (Fl z.natAbs)) ∧ w' = w := by
  have h1 := run137
  have h2 := run136
  have h3 := andNot_fl hz
  go_enter Tryz.func119, Tryz.ntmps119
  go_wp2_with fail
  trace_state
  go_ret
  exact ⟨rfl, rfl⟩
theorem lit_max : Rep 4845873199050653695 9007199254740991 := by
  have h := rep_fl (z := 9007199254740991) (by decide)
  have e : Fl 9007199254740991 = 4845873199050653695 := by decide +kernel
  rwa [e] at h
set_option maxRecDepth 100000 in
theorem signbit_zero (w : World) : Calls Tryz.prog 135 #[.float .f64 (Fl 0)] w fun e w' => e = .returned (.bool false) ∧ w' = w := by
  have h1 := run137
  rw [fl_zero]
  go_enter Tryz.func135, Tryz.ntmps135
  go_wp2_with fail
  go_ret
  exact ⟨rfl, rfl⟩
theorem ord_self {z : Int} (hz : z.natAbs < 2 ^ 53) : (FloatKind.f64.format.order (Fl z) (Fl z) == some .eq) = true := by
  rw [show FloatKind.f64.format.order (Fl z) (Fl z) = Ieee.double.order (Fl z) (Fl z) from rfl, rep_eql (rep_fl hz) (rep_fl hz)]
  simp
theorem ord_zero {z : Int} (hz : z.natAbs < 2 ^ 53) : (FloatKind.f64.format.order (Fl z) 0 == some .eq) = (z == 0) := by
  have h := rep_eql (rep_fl hz) (rep_fl (z := 0) (by decide))
  rw [fl_zero] at h
  exact h
theorem ord_max {r : Nat} {z : Int} (h : Rep r z) (hz : z ≤ 9007199254740991) : (FloatKind.f64.format.order r 4845873199050653695 == some .lt || FloatKind.f64.format.order r 4845873199050653695 == some .eq) = true := by
  rw [show FloatKind.f64.format.order r 4845873199050653695 = Ieee.double.order r 4845873199050653695 from rfl, rep_order h lit_max]
  simp only [compare, compareOfLessAndEq]
  by_cases h1 : z < 9007199254740991
  · rw [if_pos h1]; rfl
  · rw [if_neg h1, if_pos (by omega)]; rfl
set_option maxRecDepth 100000 in
theorem whole_calls (z : Int) (hz : z.natAbs < 2 ^ 53) (w : World) : Calls Tryz.prog 113 #[.float .f64 (Fl z)] w fun e w' => e = .returned (.bool true) ∧ w' = w := by
  have h1 := trunc_calls z hz
  have h2 := abs_calls z hz
  have h3 := ord_self hz
  have h4 := ord_max (r := Fl z.natAbs) (z := (z.natAbs : Int)) (rep_fl (by simpa using hz)) (by omega)
  have h5 := ord_zero hz
  by_cases h0 : z = 0
  · subst h0
    have h6 := signbit_zero
    simp only [beq_self_eq_true] at h5
    go_enter Tryz.func113, Tryz.ntmps113
    go_wp2_with fail
    go_at_call 134
    refine (h1 _).mono ?_
    rintro e w' ⟨rfl, rfl⟩
    go_wp2_with fail
    go_at_call 119
    refine (h2 _).mono ?_
    rintro e w2 ⟨rfl, rfl⟩
    go_wp2_with fail
    go_at_call 135
    refine (h6 _).mono ?_
    rintro e w3 ⟨rfl, rfl⟩
    go_wp2_with fail
    go_ret
    exact ⟨rfl, rfl⟩
  · rw [beq_eq_false_iff_ne.2 h0] at h5
    go_enter Tryz.func113, Tryz.ntmps113
    go_wp2_with fail
    go_at_call 134
    refine (h1 _).mono ?_
    rintro e w' ⟨rfl, rfl⟩
    go_wp2_with fail
    go_at_call 119
    refine (h2 _).mono ?_
    rintro e w2 ⟨rfl, rfl⟩
    go_wp2_with fail
    go_ret
    exact ⟨rfl, rfl⟩
end Go.Proofs.YtlobgpgdknjhlaaGreat.WH
