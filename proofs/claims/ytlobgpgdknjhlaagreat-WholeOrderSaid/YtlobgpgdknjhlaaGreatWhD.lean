/- The package ring, further: walked. -/
import Derived.Test.YtlobgpgdknjhlaaGreatWhC
import Derived.BigQuiet
namespace Go.Proofs.YtlobgpgdknjhlaaGreat.F
open Ieee
theorem toInt_fl {z : Int} (hz : z.natAbs < 2 ^ 53) : (FloatKind.f64.decode (Fl z)).toInt .zero = some z := by
  by_cases h0 : z = 0
  · subst h0
    decide +kernel
  · obtain ⟨s, m, p, hr, he⟩ := rep_fl hz
    have hm : m = z.natAbs * 2 ^ p := by
      have := congrArg Int.natAbs he
      rw [sg_natAbs, Int.natAbs_mul, Int.natAbs_natCast] at this
      exact this
    have hr' : FloatKind.f64.decode (Fl z) = .number s m (-(p : Int)) := hr
    rw [hr']
    unfold Datum.toInt Datum.integral
    have e1 : (-(p : Int)).toNat = 0 := by omega
    have e2 : (- -(p : Int)).toNat = p := by omega
    simp only [e1, e2, Nat.shiftLeft_zero]
    rw [cut_zero s m p z.natAbs hm (by omega), signed_eq]
    have h3 := sg_self z
    rw [← sign_of he h0] at h3
    rw [h3]
    simp
theorem int_fl {z : Int} (hz : z.natAbs < 2 ^ 53) : floatToIntVal .f64 (Fl z) .i64 = some z := by
  unfold floatToIntVal
  rw [toInt_fl hz]
  simp [IntKind.min, IntKind.max, IntKind.signed, IntKind.bits]
  omega
end Go.Proofs.YtlobgpgdknjhlaaGreat.F
namespace Go.Proofs.YtlobgpgdknjhlaaGreat.WH
open Go Go.RowKit Go.Proofs.YtlobgpgdknjhlaaGreat.F
set_option linter.unusedVariables false
set_option linter.unusedSimpArgs false
attribute [local go_sem] run_store_complex run_real run_imag run_complex run_fneg
theorem conv_fl {z : Int} (h : Pt z) (w : World) : (convert 130 2 (.float .f64 (Fl z))).run Tryz.prog w = .ok (.int .i64 z) w := run_convert_float_int w 130 2 .f64 .i64 (Fl z) z (by kernel_rfl) (by kernel_rfl) (int_fl h)

/-- One element in a box, the answer's cells behind it. -/
structure One2 (w : World) (x y z t : Nat) (W : World) : Prop where
  below : Below w.heap.size w W
  p : In2 W w.heap.size x y z t
  o : In2 W (w.heap.size + 1) 0 0 0 0
theorem One2.start (w : World) (x y z t : Nat) : One2 w x y z t ((w.alloc (.cells #[.complex .f64 x y, .complex .f64 z t] 65)).alloc (.cells #[.complex .f64 0 0, .complex .f64 0 0] 65)) :=
  ⟨(below1 w _).alloc (by simp) _, (In2.new w x y z t rfl).step (below1 _ _), In2.new _ 0 0 0 0 (by simp)⟩
theorem One2.step {w W W' : World} {x y z t : Nat} (h : One2 w x y z t W) (hb : Below W.heap.size W W') : One2 w x y z t W' :=
  ⟨h.below.trans (hb.mono h.below.size), h.p.step hb, h.o.step hb⟩
theorem In2.set {W : World} {B x y z t : Nat} (h : In2 W B x y z t) (x' y' z' t' : Nat) : In2 ((W.setCell ⟨B, 0, none⟩ (.complex .f64 x' y')).setCell ⟨B, 1, none⟩ (.complex .f64 z' t')) B x' y' z' t' := by
  refine ⟨by simpa using h.lt, ?_, ?_, fun i => by simp only [World.frozen?_setCell]; exact h.f i⟩
  · rw [World.cell?_setCell_other _ _ _ _ (by simp), World.cell?_setCell_same' _ _ _ (by rw [h.c0]; rfl)]
  · rw [World.cell?_setCell_same' _ _ _ (by rw [World.cell?_setCell_other _ _ _ _ (by simp), h.c1]; rfl)]
theorem In2.far {W : World} {B B' x y z t : Nat} (h : In2 W B x y z t) (hne : B ≠ B') (v0 v1 : Value) : In2 ((W.setCell ⟨B', 0, none⟩ v0).setCell ⟨B', 1, none⟩ v1) B x y z t := by
  refine ⟨by simpa using h.lt, ?_, ?_, fun i => by simp only [World.frozen?_setCell]; exact h.f i⟩
  · rw [World.cell?_setCell_other _ _ _ _ (by intro e; cases e <;> exact hne rfl), World.cell?_setCell_other _ _ _ _ (by intro e; cases e <;> exact hne rfl)]
    exact h.c0
  · rw [World.cell?_setCell_other _ _ _ _ (by intro e; cases e <;> exact hne rfl), World.cell?_setCell_other _ _ _ _ (by intro e; cases e <;> exact hne rfl)]
    exact h.c1
theorem One2.set {w W : World} {x y z t : Nat} (h : One2 w x y z t W) (x' y' z' t' : Nat) : One2 w x' y' z' t' ((W.setCell ⟨w.heap.size, 0, none⟩ (.complex .f64 x' y')).setCell ⟨w.heap.size, 1, none⟩ (.complex .f64 z' t')) :=
  ⟨put2 h.below (Nat.le_refl _) _ _, h.p.set x' y' z' t', h.o.far (by omega) _ _⟩

theorem and7_i (k : Int) : Go.bits .and .i64 k 7 = k % 8 := by
  have hx : (BitVec.ofInt 64 k).toNat = (k % 18446744073709551616).toNat := by simp [BitVec.toNat_ofInt]
  have h3 : (BitVec.ofInt 64 7).toNat = 7 := rfl
  have e : Go.bits .and .i64 k 7 = IntKind.i64.wrap ((((BitVec.ofInt 64 k) &&& (BitVec.ofInt 64 7)).toNat : Nat) : Int) := rfl
  rw [e, BitVec.toNat_and, hx, h3, show (7 : Nat) = 2 ^ 3 - 1 from rfl, Nat.and_two_pow_sub_one_eq_mod, IntKind.wrap_i64]
  omega
theorem wrap_par (q : Nat) (v : Int) (h : q % 2 = v.toNat) (hv : v = 0 ∨ v = 1) : IntKind.i64.wrap (q : Int) % 2 = v := by
  rw [IntKind.wrap_i64]
  omega
theorem xor_par (p q : Nat) : (p ^^^ q) % 2 = (p + q) % 2 := by
  have h1 := Nat.xor_mod_two_pow (a := p) (b := q) (n := 1)
  rw [Nat.pow_one] at h1
  rw [h1]
  have ha : p % 2 = 0 ∨ p % 2 = 1 := by omega
  have hb : q % 2 = 0 ∨ q % 2 = 1 := by omega
  have hc : (p + q) % 2 = (p % 2 + q % 2) % 2 := by omega
  rw [hc]
  rcases ha with ha | ha <;> rcases hb with hb | hb <;> rw [ha, hb] <;> rfl
theorem parity_i (a b : Int) : Go.bits .and .i64 (Go.bits .xor .i64 a b) 1 = (a + b) % 2 := by
  rw [B.and1_i]
  have hx : (BitVec.ofInt 64 a).toNat = (a % 18446744073709551616).toNat := by simp [BitVec.toNat_ofInt]
  have hy : (BitVec.ofInt 64 b).toNat = (b % 18446744073709551616).toNat := by simp [BitVec.toNat_ofInt]
  have e : Go.bits .xor .i64 a b = IntKind.i64.wrap ((((BitVec.ofInt 64 a) ^^^ (BitVec.ofInt 64 b)).toNat : Nat) : Int) := rfl
  rw [e]
  refine wrap_par _ _ ?_ (by omega)
  rw [BitVec.toNat_xor, xor_par, hx, hy]
  omega

set_option maxRecDepth 100000 in
theorem even_calls (a b : Int) (ha : Pt a) (hb : Pt b) (w : World) : Calls Tryz.prog 104 #[(Value.complex .f64 (Fl a) (Fl b))] w fun e w' => e = .returned (.bool ((a + b) % 2 == 0)) ∧ w' = w := by
  have h1 := fun w => conv_fl ha w
  have h2 := fun w => conv_fl hb w
  have h3 := parity_i a b
  generalize Fl a = x at *
  generalize Fl b = y at *
  generalize (a + b) % 2 = v at *
  go_enter Tryz.func104, Tryz.ntmps104
  go_wp2_with fail
  go_ret
  exact ⟨rfl, rfl⟩

set_option maxRecDepth 100000 in
set_option maxHeartbeats 1000000 in
theorem rdouble_calls (r : Rg) (h : r.Pt) (hs : (doubleR r).Pt) (w : World) : Calls Tryz.prog 46 #[(Value.agg #[.complex .f64 (Fl r.a) (Fl r.b), .complex .f64 (Fl r.c) (Fl r.d)])] w fun e w' => e = .returned (.tuple #[(Value.agg #[.complex .f64 (Fl (doubleR r).a) (Fl (doubleR r).b), .complex .f64 (Fl (doubleR r).c) (Fl (doubleR r).d)]), .int .i64 0]) ∧ Below w.heap.size w w' := by
  have g1 := rcheck_calls r h
  have t1 := fun w => gturn_calls r.c r.d 1 h.c h.d w
  have t2 := fun w => gturn_calls r.a r.b 1 h.a h.b w
  have g2 := gadd_calls r.c r.d (-r.d) r.c h.c h.d h.d.neg h.c (by have := hs.a; simpa [doubleR, Int.sub_eq_add_neg] using this) (by have := hs.b; simpa [doubleR] using this)
  have g3 := gsub_calls r.a r.b (-r.b) r.a h.a h.b h.b.neg h.a (by have := hs.c; simpa [doubleR] using this) (by have := hs.d; simpa [doubleR] using this)
  simp only [turnG, show (1 : Int) % 4 = 1 by decide, if_true] at t1 t2
  rw [show r.a - -r.b = r.a + r.b by omega] at g3
  rw [show r.c + -r.d = r.c - r.d by omega] at g2
  unfold doubleR
  simp only
  generalize Fl (r.c - r.d) = x2 at *
  generalize Fl (r.d + r.c) = y2 at *
  generalize Fl (r.a + r.b) = z2 at *
  generalize Fl (r.b - r.a) = t2' at *
  generalize Fl (-r.d) = u at *
  generalize Fl (-r.b) = v at *
  generalize Fl r.a = x at *
  generalize Fl r.b = y at *
  generalize Fl r.c = z at *
  generalize Fl r.d = t at *
  clear h hs
  have g4 := pair_calls x2 y2 z2 t2'
  have HK := Lib.hid (One2.start w x y z t)
  obtain ⟨-, ⟨lp, p0, p1, fp⟩, ⟨lo, o0, o1, fo⟩⟩ := HK.out
  go_enter Tryz.func46, Tryz.ntmps46
  go_wp2_with fail
  go_at_call 63
  refine (g1 _).mono ?_
  rintro e w' ⟨rfl, hb⟩
  replace HK := Lib.hid (HK.out.step hb)
  clear hb lp p0 p1 fp lo o0 o1 fo
  obtain ⟨-, ⟨lp, p0, p1, fp⟩, ⟨lo, o0, o1, fo⟩⟩ := HK.out
  go_wp2_with fail
  go_at_call 73
  refine (t1 _).mono ?_
  rintro e w' ⟨rfl, rfl⟩
  go_wp2_with fail
  go_at_call 73
  refine (t2 _).mono ?_
  rintro e w' ⟨rfl, rfl⟩
  go_wp2_with fail
  go_at_call 76
  refine (g2 _).mono ?_
  rintro e w' ⟨rfl, hb⟩
  replace HK := Lib.hid (HK.out.step hb)
  clear hb lp p0 p1 fp lo o0 o1 fo
  obtain ⟨-, ⟨lp, p0, p1, fp⟩, ⟨lo, o0, o1, fo⟩⟩ := HK.out
  go_wp2_with fail
  go_at_call 77
  refine (g3 _).mono ?_
  rintro e w' ⟨rfl, hb⟩
  replace HK := Lib.hid (HK.out.step hb)
  clear hb lp p0 p1 fp lo o0 o1 fo
  obtain ⟨-, ⟨lp, p0, p1, fp⟩, ⟨lo, o0, o1, fo⟩⟩ := HK.out
  go_wp2_with fail
  go_at_call 74
  refine (g4 _).mono ?_
  rintro e w' ⟨rfl, hb⟩
  replace HK := Lib.hid (HK.out.step hb)
  clear hb lp p0 p1 fp lo o0 o1 fo
  obtain ⟨-, ⟨lp, p0, p1, fp⟩, ⟨lo, o0, o1, fo⟩⟩ := HK.out
  go_wp2_with fail
  refine bodyPost_ret (v := .tuple #[.agg #[.complex .f64 x2 y2, .complex .f64 z2 t2'], .int .i64 0]) (by simp [results, Tryz.results46, go_sem, *]) rfl ⟨rfl, ?_⟩
  exact put2 HK.out.below (by omega) _ _

set_option maxRecDepth 100000 in
set_option maxHeartbeats 2000000 in
theorem rturn_even (r : Rg) (k : Int) (h : r.Pt) (hk : k % 8 % 2 = 0) (w : World) : Calls Tryz.prog 44 #[(Value.agg #[.complex .f64 (Fl r.a) (Fl r.b), .complex .f64 (Fl r.c) (Fl r.d)]), .int .i64 k] w fun e w' => e = .returned (.tuple #[(Value.agg #[.complex .f64 (Fl (turnR k r).a) (Fl (turnR k r).b), .complex .f64 (Fl (turnR k r).c) (Fl (turnR k r).d)]), .int .i64 0]) ∧ Below w.heap.size w w' := by
  have e0 : turnR k r = evenR (k % 8 / 2) r := by
    unfold turnR
    rw [if_neg (by omega)]
  rw [e0]
  have g1 := rcheck_calls r h
  have hand := and7_i k
  have e1 := fun w => gturn_calls r.a r.b (k % 8 / 2) h.a h.b w
  have e2 := fun w => gturn_calls r.c r.d (k % 8 / 2) h.c h.d w
  have hand1 : Go.bits .and .i64 (k % 8) 1 = 0 := by rw [B.and1_i]; exact hk
  have hq : (k % 8).tdiv 2 = k % 8 / 2 := by rw [Int.tdiv_eq_ediv_of_nonneg (by omega)]
  have hj : 0 ≤ k % 8 / 2 ∧ k % 8 / 2 ≤ 3 := by omega
  have hm : 0 ≤ k % 8 ∧ k % 8 ≤ 7 := by omega
  unfold evenR
  simp only
  generalize k % 8 / 2 = j at *
  generalize k % 8 = m at *
  generalize Fl (turnG j r.a r.b).1 = x2 at *
  generalize Fl (turnG j r.a r.b).2 = y2 at *
  generalize Fl (turnG j r.c r.d).1 = z2 at *
  generalize Fl (turnG j r.c r.d).2 = t2 at *
  generalize Fl r.a = x at *
  generalize Fl r.b = y at *
  generalize Fl r.c = z at *
  generalize Fl r.d = t at *
  clear h e0 hk
  have g4 := pair_calls x2 y2 z2 t2
  have HK := Lib.hid (One2.start w x y z t)
  obtain ⟨-, ⟨lp, p0, p1, fp⟩, ⟨lo, o0, o1, fo⟩⟩ := HK.out
  go_enter Tryz.func44, Tryz.ntmps44
  go_wp2_with fail
  go_at_call 63
  refine (g1 _).mono ?_
  rintro e w' ⟨rfl, hb⟩
  replace HK := Lib.hid (HK.out.step hb)
  clear hb lp p0 p1 fp lo o0 o1 fo
  obtain ⟨-, ⟨lp, p0, p1, fp⟩, ⟨lo, o0, o1, fo⟩⟩ := HK.out
  go_wp2_with fail
  go_at_call 73
  refine (e1 _).mono ?_
  rintro e w' ⟨rfl, rfl⟩
  go_wp2_with fail
  go_at_call 73
  refine (e2 _).mono ?_
  rintro e w' ⟨rfl, rfl⟩
  go_wp2_with fail
  go_at_call 74
  refine (g4 _).mono ?_
  rintro e w' ⟨rfl, hb⟩
  replace HK := Lib.hid (HK.out.step hb)
  clear hb lp p0 p1 fp lo o0 o1 fo
  obtain ⟨-, ⟨lp, p0, p1, fp⟩, ⟨lo, o0, o1, fo⟩⟩ := HK.out
  go_wp2_with fail
  refine bodyPost_ret (v := .tuple #[.agg #[.complex .f64 x2 y2, .complex .f64 z2 t2], .int .i64 0]) (by simp [results, Tryz.results44, go_sem, *]) rfl ⟨rfl, ?_⟩
  exact put2 HK.out.below (by omega) _ _

set_option maxRecDepth 100000 in
set_option maxHeartbeats 2000000 in
theorem rturn_odd (r : Rg) (k : Int) (h : r.Pt) (hk : k % 8 % 2 = 1) (w : World) : Calls Tryz.prog 44 #[(Value.agg #[.complex .f64 (Fl r.a) (Fl r.b), .complex .f64 (Fl r.c) (Fl r.d)]), .int .i64 k] w fun e w' => e = .returned (.tuple #[(Value.agg #[.complex .f64 (Fl (turnR k r).a) (Fl (turnR k r).b), .complex .f64 (Fl (turnR k r).c) (Fl (turnR k r).d)]), .int .i64 0]) ∧ Below w.heap.size w w' := by
  have e0 : turnR k r = evenR (k % 8 / 2) (oddR r) := by
    unfold turnR
    rw [if_pos hk]
  rw [e0]
  have hbd : ∀ (a b c d : Nat) (w : World), (Instr.build 65 #[(0, .complex .f64 a b), (1, .complex .f64 c d)]).run Tryz.prog w = .ok (.agg #[.complex .f64 a b, .complex .f64 c d]) w := fun a b c d w => run_build w 65 _ _ (by kernel_rfl)
  have g1 := rcheck_calls r h
  have hand := and7_i k
  have e3 := fun w => gturn_calls r.c r.d 1 h.c h.d w
  simp only [turnG, show (1 : Int) % 4 = 1 by decide, if_true] at e3
  have e1 := fun w => gturn_calls (-r.d) r.c (k % 8 / 2) h.d.neg h.c w
  have e2 := fun w => gturn_calls r.a r.b (k % 8 / 2) h.a h.b w
  have hand1 : Go.bits .and .i64 (k % 8) 1 = 1 := by rw [B.and1_i]; exact hk
  have hq : (k % 8).tdiv 2 = k % 8 / 2 := by rw [Int.tdiv_eq_ediv_of_nonneg (by omega)]
  have hj : 0 ≤ k % 8 / 2 ∧ k % 8 / 2 ≤ 3 := by omega
  have hm : 0 ≤ k % 8 ∧ k % 8 ≤ 7 := by omega
  unfold evenR oddR
  simp only
  generalize k % 8 / 2 = j at *
  generalize k % 8 = m at *
  generalize Fl (turnG j (-r.d) r.c).1 = x2 at *
  generalize Fl (turnG j (-r.d) r.c).2 = y2 at *
  generalize Fl (turnG j r.a r.b).1 = z2 at *
  generalize Fl (turnG j r.a r.b).2 = t2 at *
  generalize Fl (-r.d) = u at *
  generalize Fl r.a = x at *
  generalize Fl r.b = y at *
  generalize Fl r.c = z at *
  generalize Fl r.d = t at *
  clear h e0 hk
  have g4 := pair_calls x2 y2 z2 t2
  have HK := Lib.hid (One2.start w x y z t)
  obtain ⟨-, ⟨lp, p0, p1, fp⟩, ⟨lo, o0, o1, fo⟩⟩ := HK.out
  go_enter Tryz.func44, Tryz.ntmps44
  go_wp2_with fail
  go_at_call 63
  refine (g1 _).mono ?_
  rintro e w' ⟨rfl, hb⟩
  replace HK := Lib.hid (HK.out.step hb)
  clear hb lp p0 p1 fp lo o0 o1 fo
  obtain ⟨-, ⟨lp, p0, p1, fp⟩, ⟨lo, o0, o1, fo⟩⟩ := HK.out
  go_wp2_with fail
  go_at_call 73
  refine (e3 _).mono ?_
  rintro e w2 ⟨rfl, rfl⟩
  go_wp2_with fail
  have HK2 := Lib.hid (HK.out.set u z x y)
  clear HK lp p0 p1 fp lo o0 o1 fo
  generalize ((w2.setCell ⟨w.heap.size, 0, none⟩ (Value.complex .f64 u z)).setCell ⟨w.heap.size, 1, none⟩ (Value.complex .f64 x y)) = w3 at HK2 ⊢
  have HK := HK2
  clear HK2
  obtain ⟨-, ⟨lp, p0, p1, fp⟩, ⟨lo, o0, o1, fo⟩⟩ := HK.out
  go_at_call 73
  refine (e1 _).mono ?_
  rintro e w' ⟨rfl, rfl⟩
  go_wp2_with fail
  go_at_call 73
  refine (e2 _).mono ?_
  rintro e w' ⟨rfl, rfl⟩
  go_wp2_with fail
  go_at_call 74
  refine (g4 _).mono ?_
  rintro e w' ⟨rfl, hb⟩
  replace HK := Lib.hid (HK.out.step hb)
  clear hb lp p0 p1 fp lo o0 o1 fo
  obtain ⟨-, ⟨lp, p0, p1, fp⟩, ⟨lo, o0, o1, fo⟩⟩ := HK.out
  go_wp2_with fail
  refine bodyPost_ret (v := .tuple #[.agg #[.complex .f64 x2 y2, .complex .f64 z2 t2], .int .i64 0]) (by simp [results, Tryz.results44, go_sem, *]) rfl ⟨rfl, ?_⟩
  exact put2 HK.out.below (by omega) _ _

theorem rturn_calls (r : Rg) (k : Int) (h : r.Pt) (w : World) : Calls Tryz.prog 44 #[(Value.agg #[.complex .f64 (Fl r.a) (Fl r.b), .complex .f64 (Fl r.c) (Fl r.d)]), .int .i64 k] w fun e w' => e = .returned (.tuple #[(Value.agg #[.complex .f64 (Fl (turnR k r).a) (Fl (turnR k r).b), .complex .f64 (Fl (turnR k r).c) (Fl (turnR k r).d)]), .int .i64 0]) ∧ Below w.heap.size w w' := by
  by_cases hk : k % 8 % 2 = 1
  · exact rturn_odd r k h hk w
  · exact rturn_even r k h (by omega) w
end Go.Proofs.YtlobgpgdknjhlaaGreat.WH
