/- The functions of layer 1 on complex numbers whose parts are whole: what they hand back. -/
import Derived.Test.YtknenddcighbpaaFloN
import Derived.Test.YtknenddcighbpaaProg
import Derived.Below
import Derived.Tactics
import Derived.WalkKit
import Derived.ProofKit
import Derived.Laws.FloatArith
import Derived.OwnWalk
import Derived.KernelRfl
namespace Go.Proofs.Ytknenddcighbpaa.CX
open Go.RowKit Go.Proofs.Ytknenddcighbpaa.F
set_option linter.unusedVariables false
set_option linter.unusedSimpArgs false
theorem fb_mul {x y r : Nat} (h : Ieee.double.mul x y = some r) : floatBits .mul .f64 x y = some r := h
theorem fb_add {x y r : Nat} (h : Ieee.double.add x y = some r) : floatBits .add .f64 x y = some r := h
theorem fb_sub {x y r : Nat} (h : Ieee.double.sub x y = some r) : floatBits .sub .f64 x y = some r := h
section
variable {P : Program} (w : World)
theorem run_real (ats : Array TypeId) (t : TypeId) (k : FloatKind) (a b : Nat) : Sem.run P (Builtin.real_ ats t #[.complex k a b]) w = .ok (.float k a) w := rfl
theorem run_imag (ats : Array TypeId) (t : TypeId) (k : FloatKind) (a b : Nat) : Sem.run P (Builtin.imag_ ats t #[.complex k a b]) w = .ok (.float k b) w := rfl
theorem run_complex (ats : Array TypeId) (t : TypeId) (k : FloatKind) (a b : Nat) : Sem.run P (Builtin.complex_ ats t #[.float k a, .float k b]) w = .ok (.complex k a b) w := by
  cases k <;> rfl
theorem run_fneg (x : Nat) : Sem.run P (Op.unary .neg (.float .f64 x)) w = .ok (.float .f64 (x ^^^ 2 ^ 63)) w := rfl
theorem arith_run (op : BinOp) (x y r : Nat) (h : floatBits op .f64 x y = some r) : Sem.run P (Op.Complex.arith op .f64 x y) w = .ok r w := by
  unfold floatBits at h
  cases op <;> simp only at h <;> first | (cases h; done) | skip
  all_goals simp [Op.Complex.arith, Op.floatArith, h, go_sem]
theorem run_cadd (t : TypeId) (a b c d u v : Nat) (h1 : Ieee.double.add a c = some u) (h2 : Ieee.double.add b d = some v) : Sem.run P (binOp .add t (.complex .f64 a b) (.complex .f64 c d)) w = .ok (.complex .f64 u v) w := by
  have e1 := arith_run (P := P) w .add a c u (fb_add h1)
  have e2 := arith_run (P := P) w .add b d v (fb_add h2)
  simp [binOp, Op.complexOp, go_sem, e1, e2]
theorem run_csub (t : TypeId) (a b c d u v : Nat) (h1 : Ieee.double.sub a c = some u) (h2 : Ieee.double.sub b d = some v) : Sem.run P (binOp .sub t (.complex .f64 a b) (.complex .f64 c d)) w = .ok (.complex .f64 u v) w := by
  have e1 := arith_run (P := P) w .sub a c u (fb_sub h1)
  have e2 := arith_run (P := P) w .sub b d v (fb_sub h2)
  simp [binOp, Op.complexOp, go_sem, e1, e2]
theorem run_cmul (t : TypeId) (a b c d p q r s u v : Nat) (h1 : Ieee.double.mul a c = some p) (h2 : Ieee.double.mul b d = some q) (h3 : Ieee.double.sub p q = some u) (h4 : Ieee.double.mul a d = some r) (h5 : Ieee.double.mul b c = some s) (h6 : Ieee.double.add r s = some v) :
    Sem.run P (binOp .mul t (.complex .f64 a b) (.complex .f64 c d)) w = .ok (.complex .f64 u v) w := by
  have e1 := arith_run (P := P) w .mul a c p (fb_mul h1)
  have e2 := arith_run (P := P) w .mul b d q (fb_mul h2)
  have e3 := arith_run (P := P) w .sub p q u (fb_sub h3)
  have e4 := arith_run (P := P) w .mul a d r (fb_mul h4)
  have e5 := arith_run (P := P) w .mul b c s (fb_mul h5)
  have e6 := arith_run (P := P) w .add r s v (fb_add h6)
  simp [binOp, Op.complexOp, Op.Complex.conv, Op.Complex.product, Op.Complex.mul, Op.Complex.sub, Op.Complex.add, go_sem, e1, e2, e3, e4, e5, e6]
theorem run_ceql (t : TypeId) (a b c d : Nat) (A B C D : Int) (ha : Rep a A) (hb : Rep b B) (hc : Rep c C) (hd : Rep d D) : Sem.run P (binOp .eql t (.complex .f64 a b) (.complex .f64 c d)) w = .ok (.bool (A == C && B == D)) w := by
  have h1 := rep_eql ha hc
  have h2 := rep_eql hb hd
  have e1 : Sem.run P (Op.Complex.cmp .eql .f64 a c) w = .ok (A == C) w := by
    rw [← h1]
    simp [Op.Complex.cmp, Op.floatCmp, go_sem]
    rfl
  have e2 : Sem.run P (Op.Complex.cmp .eql .f64 b d) w = .ok (B == D) w := by
    rw [← h2]
    simp [Op.Complex.cmp, Op.floatCmp, go_sem]
    rfl
  simp [binOp, Op.complexOp, go_sem, e1, e2]
end
attribute [local go_sem] run_real run_imag run_complex run_fneg
set_option maxRecDepth 100000 in
set_option maxHeartbeats 1000000 in
theorem times_calls (p q r : Nat) (h : Ieee.double.mul p q = some r) (w : World) : Calls Try.prog 17 #[.float .f64 p, .float .f64 q] w fun e w' => e = .returned (.float .f64 r) ∧ w' = w := by
  have hm := run_float_arith (P := Try.prog) (w := w) .mul 24 .f64 p q r (fb_mul h)
  go_enter Try.func17, Try.ntmps17
  go_wp2
  go_ret
  exact ⟨rfl, rfl⟩
set_option maxRecDepth 100000 in
set_option maxHeartbeats 1000000 in
theorem Equal_calls (a b c d : Nat) (A B C D : Int) (ha : Rep a A) (hb : Rep b B) (hc : Rep c C) (hd : Rep d D) (w : World) : Calls Try.prog 5 #[.complex .f64 a b, .complex .f64 c d] w fun e w' => e = .returned (.bool (A == C && B == D)) ∧ w' = w := by
  have hx := run_ceql (P := Try.prog) w 26 a b c d A B C D ha hb hc hd
  go_enter Try.func5, Try.ntmps5
  go_wp2
  go_ret
  exact ⟨rfl, rfl⟩
set_option maxRecDepth 100000 in
set_option maxHeartbeats 1000000 in
theorem Add_calls (a b c d u v : Nat) (h1 : Ieee.double.add a c = some u) (h2 : Ieee.double.add b d = some v) (w : World) : Calls Try.prog 7 #[.complex .f64 a b, .complex .f64 c d] w fun e w' => e = .returned (.complex .f64 u v) ∧ w' = w := by
  have hx := run_cadd (P := Try.prog) w 26 a b c d u v h1 h2
  clear h1 h2
  go_enter Try.func7, Try.ntmps7
  go_wp2
  go_ret
  exact ⟨rfl, rfl⟩
set_option maxRecDepth 100000 in
set_option maxHeartbeats 1000000 in
theorem Sub_calls (a b c d u v : Nat) (h1 : Ieee.double.sub a c = some u) (h2 : Ieee.double.sub b d = some v) (w : World) : Calls Try.prog 8 #[.complex .f64 a b, .complex .f64 c d] w fun e w' => e = .returned (.complex .f64 u v) ∧ w' = w := by
  have hx := run_csub (P := Try.prog) w 26 a b c d u v h1 h2
  clear h1 h2
  go_enter Try.func8, Try.ntmps8
  go_wp2
  go_ret
  exact ⟨rfl, rfl⟩
set_option maxRecDepth 100000 in
set_option maxHeartbeats 1000000 in
theorem Conj_calls (a b : Nat) (w : World) : Calls Try.prog 9 #[.complex .f64 a b] w fun e w' => e = .returned (.complex .f64 a (b ^^^ 2 ^ 63)) ∧ w' = w := by
  go_enter Try.func9, Try.ntmps9
  go_wp2
  go_ret
  exact ⟨by rfl, rfl⟩
set_option maxRecDepth 100000 in
set_option maxHeartbeats 1000000 in
theorem Norm_words (a b p q r : Nat) (h1 : Ieee.double.mul a a = some p) (h2 : Ieee.double.mul b b = some q) (h3 : Ieee.double.add p q = some r) (w : World) :
    Calls Try.prog 10 #[.complex .f64 a b] w fun e w' => e = .returned (.float .f64 r) ∧ w' = w := by
  have hx := fun w => run_float_arith (P := Try.prog) (w := w) .add 24 .f64 p q r (fb_add h3)
  go_enter Try.func10, Try.ntmps10
  go_wp2_with (first | (go_at_call 17; (with_reducible refine (times_calls a a p h1 _).mono ?_); rintro e w' ⟨rfl, rfl⟩) | (go_at_call 17; (with_reducible refine (times_calls b b q h2 _).mono ?_); rintro e w' ⟨rfl, rfl⟩))
  go_ret
  exact ⟨rfl, rfl⟩
set_option maxRecDepth 100000 in
set_option maxHeartbeats 1000000 in
theorem Mul_words (a b c d p q r s u v : Nat) (h1 : Ieee.double.mul a c = some p) (h2 : Ieee.double.mul b d = some q) (h3 : Ieee.double.sub p q = some u) (h4 : Ieee.double.mul a d = some r) (h5 : Ieee.double.mul b c = some s) (h6 : Ieee.double.add r s = some v) (w : World) :
    Calls Try.prog 6 #[.complex .f64 a b, .complex .f64 c d] w fun e w' => e = .returned (.complex .f64 u v) ∧ w' = w := by
  have hx := fun w => run_float_arith (P := Try.prog) (w := w) .sub 24 .f64 p q u (fb_sub h3)
  have hy := fun w => run_float_arith (P := Try.prog) (w := w) .add 24 .f64 r s v (fb_add h6)
  go_enter Try.func6, Try.ntmps6
  go_wp2_with (first | (go_at_call 17; (with_reducible refine (times_calls a c p h1 _).mono ?_); rintro e w' ⟨rfl, rfl⟩) | (go_at_call 17; (with_reducible refine (times_calls b d q h2 _).mono ?_); rintro e w' ⟨rfl, rfl⟩) | (go_at_call 17; (with_reducible refine (times_calls a d r h4 _).mono ?_); rintro e w' ⟨rfl, rfl⟩) | (go_at_call 17; (with_reducible refine (times_calls b c s h5 _).mono ?_); rintro e w' ⟨rfl, rfl⟩))
  go_ret
  exact ⟨rfl, rfl⟩
set_option maxRecDepth 100000 in
set_option maxHeartbeats 1000000 in
theorem Turn1_calls (a b : Nat) (w : World) : Calls Try.prog 11 #[.complex .f64 a b, .int .i64 1] w fun e w' => e = .returned (.complex .f64 (b ^^^ 2 ^ 63) a) ∧ w' = w := by
  go_enter Try.func11, Try.ntmps11
  go_wp2
  go_ret
  exact ⟨by rfl, rfl⟩
theorem le_pow {x M K : Nat} {A C : Int} (hA : A.natAbs ≤ M) (hC : C.natAbs ≤ K) : (A * C).natAbs ≤ M * K := by rw [Int.natAbs_mul]; exact Nat.mul_le_mul hA hC
/-- A complex number whose parts are whole. -/
def CR (a b : Nat) (A B : Int) : Prop := Rep a A ∧ Rep b B
theorem Mul_calls {a b c d : Nat} {A B C D : Int} (M K : Nat) (h1 : CR a b A B) (h2 : CR c d C D) (hA : A.natAbs ≤ M) (hB : B.natAbs ≤ M) (hC : C.natAbs ≤ K) (hD : D.natAbs ≤ K) (hb : 2 * (M * K) < 2 ^ 53) :
    ∃ u v, CR u v (A * C - B * D) (A * D + B * C) ∧ ∀ w, Calls Try.prog 6 #[.complex .f64 a b, .complex .f64 c d] w fun e w' => e = .returned (.complex .f64 u v) ∧ w' = w := by
  have b1 := le_pow (x := 0) hA hC
  have b2 := le_pow (x := 0) hB hD
  have b3 := le_pow (x := 0) hA hD
  have b4 := le_pow (x := 0) hB hC
  obtain ⟨p, e1, r1⟩ := rep_prod h1.1 h2.1 (by omega)
  obtain ⟨q, e2, r2⟩ := rep_prod h1.2 h2.2 (by omega)
  obtain ⟨r, e3, r3⟩ := rep_prod h1.1 h2.2 (by omega)
  obtain ⟨s, e4, r4⟩ := rep_prod h1.2 h2.1 (by omega)
  obtain ⟨u, e5, r5⟩ := rep_diff r1 r2 (by omega)
  obtain ⟨v, e6, r6⟩ := rep_sum r3 r4 (by omega)
  exact ⟨u, v, ⟨r5, r6⟩, Mul_words a b c d p q r s u v e1 e2 e5 e3 e4 e6⟩
theorem Norm_calls {a b : Nat} {A B : Int} (M : Nat) (h1 : CR a b A B) (hA : A.natAbs ≤ M) (hB : B.natAbs ≤ M) (hb : 2 * (M * M) < 2 ^ 53) :
    ∃ r, Rep r (A * A + B * B) ∧ ∀ w, Calls Try.prog 10 #[.complex .f64 a b] w fun e w' => e = .returned (.float .f64 r) ∧ w' = w := by
  have b1 := le_pow (x := 0) hA hA
  have b2 := le_pow (x := 0) hB hB
  obtain ⟨p, e1, r1⟩ := rep_prod h1.1 h1.1 (by omega)
  obtain ⟨q, e2, r2⟩ := rep_prod h1.2 h1.2 (by omega)
  obtain ⟨r, e3, r3⟩ := rep_sum r1 r2 (by omega)
  exact ⟨r, r3, Norm_words a b p q r e1 e2 e3⟩
theorem mul_run {P : Program} {a b c d : Nat} {A B C D : Int} (M K : Nat) (h1 : CR a b A B) (h2 : CR c d C D) (hA : A.natAbs ≤ M) (hB : B.natAbs ≤ M) (hC : C.natAbs ≤ K) (hD : D.natAbs ≤ K) (hb : 2 * (M * K) < 2 ^ 53) (t : TypeId) :
    ∃ u v, CR u v (A * C - B * D) (A * D + B * C) ∧ ∀ w, Sem.run P (binOp .mul t (.complex .f64 a b) (.complex .f64 c d)) w = .ok (.complex .f64 u v) w := by
  have b1 := le_pow (x := 0) hA hC
  have b2 := le_pow (x := 0) hB hD
  have b3 := le_pow (x := 0) hA hD
  have b4 := le_pow (x := 0) hB hC
  obtain ⟨p, e1, r1⟩ := rep_prod h1.1 h2.1 (by omega)
  obtain ⟨q, e2, r2⟩ := rep_prod h1.2 h2.2 (by omega)
  obtain ⟨r, e3, r3⟩ := rep_prod h1.1 h2.2 (by omega)
  obtain ⟨s, e4, r4⟩ := rep_prod h1.2 h2.1 (by omega)
  obtain ⟨u, e5, r5⟩ := rep_diff r1 r2 (by omega)
  obtain ⟨v, e6, r6⟩ := rep_sum r3 r4 (by omega)
  exact ⟨u, v, ⟨r5, r6⟩, fun w => run_cmul w t a b c d p q r s u v e1 e2 e5 e3 e4 e6⟩
theorem Add_all {a b c d : Nat} {A B C D : Int} (M K : Nat) (h1 : CR a b A B) (h2 : CR c d C D) (hA : A.natAbs ≤ M) (hB : B.natAbs ≤ M) (hC : C.natAbs ≤ K) (hD : D.natAbs ≤ K) (hb : M + K < 2 ^ 53) :
    ∃ u v, CR u v (A + C) (B + D) ∧ (∀ w, Calls Try.prog 7 #[.complex .f64 a b, .complex .f64 c d] w fun e w' => e = .returned (.complex .f64 u v) ∧ w' = w) ∧ ∀ w, Sem.run Try.prog (binOp .add 26 (.complex .f64 a b) (.complex .f64 c d)) w = .ok (.complex .f64 u v) w := by
  obtain ⟨u, e5, r5⟩ := rep_sum h1.1 h2.1 (by omega)
  obtain ⟨v, e6, r6⟩ := rep_sum h1.2 h2.2 (by omega)
  exact ⟨u, v, ⟨r5, r6⟩, Add_calls a b c d u v e5 e6, fun w => run_cadd w 26 a b c d u v e5 e6⟩
theorem Sub_all {a b c d : Nat} {A B C D : Int} (M K : Nat) (h1 : CR a b A B) (h2 : CR c d C D) (hA : A.natAbs ≤ M) (hB : B.natAbs ≤ M) (hC : C.natAbs ≤ K) (hD : D.natAbs ≤ K) (hb : M + K < 2 ^ 53) :
    ∃ u v, CR u v (A - C) (B - D) ∧ (∀ w, Calls Try.prog 8 #[.complex .f64 a b, .complex .f64 c d] w fun e w' => e = .returned (.complex .f64 u v) ∧ w' = w) ∧ ∀ w, Sem.run Try.prog (binOp .sub 26 (.complex .f64 a b) (.complex .f64 c d)) w = .ok (.complex .f64 u v) w := by
  obtain ⟨u, e5, r5⟩ := rep_diff h1.1 h2.1 (by omega)
  obtain ⟨v, e6, r6⟩ := rep_diff h1.2 h2.2 (by omega)
  exact ⟨u, v, ⟨r5, r6⟩, Sub_calls a b c d u v e5 e6, fun w => run_csub w 26 a b c d u v e5 e6⟩
theorem Equal_all {a b c d : Nat} {A B C D : Int} (h1 : CR a b A B) (h2 : CR c d C D) (e1 : A = C) (e2 : B = D) (w : World) : Calls Try.prog 5 #[.complex .f64 a b, .complex .f64 c d] w fun e w' => e = .returned (.bool true) ∧ w' = w := by
  have := Equal_calls a b c d A B C D h1.1 h1.2 h2.1 h2.2 w
  rw [e1, e2] at this
  simpa using this
end Go.Proofs.Ytknenddcighbpaa.CX
