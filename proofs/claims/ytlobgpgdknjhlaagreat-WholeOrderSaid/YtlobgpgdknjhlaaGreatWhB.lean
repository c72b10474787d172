/- The package gauss: walked. -/
import Derived.Test.YtlobgpgdknjhlaaGreatWhA
namespace Go.Proofs.YtlobgpgdknjhlaaGreat.WH
open Go Go.RowKit Go.Proofs.YtlobgpgdknjhlaaGreat.F
set_option linter.unusedVariables false
set_option linter.unusedSimpArgs false
section
variable {P : Program} (w : World)
theorem run_real (ats : Array TypeId) (t : TypeId) (k : FloatKind) (a b : Nat) : Sem.run P (Builtin.real_ ats t #[.complex k a b]) w = .ok (.float k a) w := rfl
theorem run_imag (ats : Array TypeId) (t : TypeId) (k : FloatKind) (a b : Nat) : Sem.run P (Builtin.imag_ ats t #[.complex k a b]) w = .ok (.float k b) w := rfl
theorem run_complex (ats : Array TypeId) (t : TypeId) (k : FloatKind) (a b : Nat) : Sem.run P (Builtin.complex_ ats t #[.float k a, .float k b]) w = .ok (.complex k a b) w := by
  cases k <;> rfl
theorem run_fneg (x : Nat) : Sem.run P (Op.unary .neg (.float .f64 x)) w = .ok (.float .f64 (x ^^^ 2 ^ 63)) w := rfl
theorem fb_add {x y r : Nat} (h : Ieee.double.add x y = some r) : floatBits .add .f64 x y = some r := h
theorem fb_sub {x y r : Nat} (h : Ieee.double.sub x y = some r) : floatBits .sub .f64 x y = some r := h
end
attribute [local go_sem] run_real run_imag run_complex run_fneg
def Pt (z : Int) : Prop := z.natAbs < 2 ^ 53

set_option maxRecDepth 100000 in
theorem gcheck_calls (a b : Int) (ha : Pt a) (hb : Pt b) (w : World) : Calls Tryz.prog 91 #[(Value.complex .f64 (Fl a) (Fl b))] w fun e w' => e = .returned (.int .i64 0) ∧ w' = w := by
  have h1 := whole_calls a ha
  have h2 := whole_calls b hb
  generalize Fl a = x at *
  generalize Fl b = y at *
  go_enter Tryz.func91, Tryz.ntmps91
  go_wp2_with fail
  go_at_call 113
  refine (h1 _).mono ?_
  rintro e w2 ⟨rfl, rfl⟩
  go_wp2_with fail
  go_at_call 113
  refine (h2 _).mono ?_
  rintro e w2 ⟨rfl, rfl⟩
  go_wp2_with fail
  go_ret
  exact ⟨rfl, rfl⟩
set_option maxRecDepth 100000 in
theorem gboth_calls (a b c d : Int) (ha : Pt a) (hb : Pt b) (hc : Pt c) (hd : Pt d) (w : World) : Calls Tryz.prog 102 #[(Value.complex .f64 (Fl a) (Fl b)), (Value.complex .f64 (Fl c) (Fl d))] w fun e w' => e = .returned (.int .i64 0) ∧ w' = w := by
  have h1 := gcheck_calls a b ha hb
  have h2 := gcheck_calls c d hc hd
  generalize Fl a = x at *
  generalize Fl b = y at *
  generalize Fl c = z at *
  generalize Fl d = t at *
  go_enter Tryz.func102, Tryz.ntmps102
  go_wp2_with fail
  go_at_call 91
  refine (h1 _).mono ?_
  rintro e w2 ⟨rfl, rfl⟩
  go_wp2_with fail
  go_at_call 91
  refine (h2 _).mono ?_
  rintro e w2 ⟨rfl, rfl⟩
  go_wp2_with fail
  go_ret
  exact ⟨rfl, rfl⟩
set_option maxRecDepth 100000 in
theorem made_calls {r s : Nat} {a b : Int} (ha : Pt a) (hb : Pt b) (hr : Zr r a) (hs : Zr s b) (w : World) : Calls Tryz.prog 101 #[.float .f64 r, .float .f64 s] w fun e w' => e = .returned (Value.complex .f64 (Fl a) (Fl b)) ∧ w' = w := by
  have h1 := fun w => run_float_arith (P := Tryz.prog) (w := w) .add 130 .f64 r 0 _ (fb_add (fix_zr hr ha))
  have h2 := fun w => run_float_arith (P := Tryz.prog) (w := w) .add 130 .f64 s 0 _ (fb_add (fix_zr hs hb))
  generalize Fl a = x at *
  generalize Fl b = y at *
  go_enter Tryz.func101, Tryz.ntmps101
  go_wp2_with fail
  go_ret
  exact ⟨rfl, rfl⟩
set_option maxRecDepth 100000 in
theorem abs_walk {r q : Nat} (h3 : Go.bits .andNot .u64 ((r : Nat) : Int) 9223372036854775808 = ((q : Nat) : Int)) (w : World) : Calls Tryz.prog 119 #[.float .f64 r] w fun e w' => e = .returned (.float .f64 q) ∧ w' = w := by
  have h1 := run137
  have h2 := run136
  go_enter Tryz.func119, Tryz.ntmps119
  go_wp2_with fail
  go_ret
  exact ⟨rfl, rfl⟩
theorem abs_zr {r : Nat} {a : Int} (ha : Pt a) (hr : Zr r a) (w : World) : Calls Tryz.prog 119 #[.float .f64 r] w fun e w' => e = .returned (.float .f64 (Fl a.natAbs)) ∧ w' = w := by
  rcases hr with rfl | ⟨rfl, rfl⟩
  · exact abs_calls a ha w
  · refine abs_walk ?_ w
    rw [show ((0 : Int).natAbs : Int) = 0 from rfl, fl_zero]
    decide +kernel
set_option maxRecDepth 100000 in
theorem small2_calls {r s : Nat} {a b : Int} (ha : Pt a) (hb : Pt b) (hr : Zr r a) (hs : Zr s b) (B : Nat) (w : World) (c0 : w.cell? ⟨B, 0, none⟩ = some (.float .f64 r)) (c1 : w.cell? ⟨B, 1, none⟩ = some (.float .f64 s)) :
    Calls Tryz.prog 103 #[.slice (some ⟨B, 0, none⟩) 2 2] w fun e w' => e = .returned (.bool true) ∧ w' = w := by
  have h1 := fun w => abs_zr ha hr w
  have h2 := fun w => abs_zr hb hs w
  have h3 := ord_max (r := Fl a.natAbs) (z := (a.natAbs : Int)) (rep_fl (by unfold Pt at ha; simpa using ha)) (by unfold Pt at ha; omega)
  have h4 := ord_max (r := Fl b.natAbs) (z := (b.natAbs : Int)) (rep_fl (by unfold Pt at hb; simpa using hb)) (by unfold Pt at hb; omega)
  generalize Fl a.natAbs = x at *
  generalize Fl b.natAbs = y at *
  go_enter Tryz.func103, Tryz.ntmps103
  go_wp2_with fail
  go_loopw [7] (fun s W => ∃ j : Nat, j ≤ 2 ∧ s = .int .i64 j ∧ W = w) (fun s _ => 2 - (intOf s).toNat)
  case atStart => exact ⟨0, by omega, rfl, rfl⟩
  case round =>
    obtain ⟨j, hj, rfl, rfl⟩ := hrel
    have h3j : j = 0 ∨ j = 1 ∨ j = 2 := by omega
    rcases h3j with rfl | rfl | rfl
    · go_wp2_with fail
      go_at_call 119
      refine (h1 _).mono ?_
      rintro e w2 ⟨rfl, rfl⟩
      go_wp2_with fail
      go_roundw
      case rel => exact ⟨1, by omega, rfl, by first | rfl | trivial⟩
      case measure => simp [intOf]
    · go_wp2_with fail
      go_at_call 119
      refine (h2 _).mono ?_
      rintro e w2 ⟨rfl, rfl⟩
      go_wp2_with fail
      go_roundw
      case rel => exact ⟨2, by omega, rfl, by first | rfl | trivial⟩
      case measure => simp [intOf]
    · go_wp2_with fail
      go_ret
      exact ⟨rfl, rfl⟩
set_option maxRecDepth 100000 in
theorem gadd_calls (a b c d : Int) (ha : Pt a) (hb : Pt b) (hc : Pt c) (hd : Pt d) (h1 : Pt (a + c)) (h2 : Pt (b + d)) (w : World) : Calls Tryz.prog 76 #[(Value.complex .f64 (Fl a) (Fl b)), (Value.complex .f64 (Fl c) (Fl d))] w fun e w' => e = .returned (.tuple #[(Value.complex .f64 (Fl (a + c)) (Fl (b + d))), .int .i64 0]) ∧ Below w.heap.size w w' := by
  have g1 := gboth_calls a b c d ha hb hc hd
  obtain ⟨r, hr, zr⟩ := add_zr (rep_fl ha) (rep_fl hc) h1
  obtain ⟨s, hs, zs⟩ := add_zr (rep_fl hb) (rep_fl hd) h2
  have hr' := fun w => run_float_arith (P := Tryz.prog) (w := w) .add 130 .f64 _ _ _ (fb_add hr)
  have hs' := fun w => run_float_arith (P := Tryz.prog) (w := w) .add 130 .f64 _ _ _ (fb_add hs)
  have g2 := fun B w c0 c1 => small2_calls h1 h2 zr zs B w c0 c1
  have g3 := fun w => made_calls h1 h2 zr zs w
  clear hr hs zr zs h1 h2 ha hb hc hd
  generalize Fl (a + c) = u at *
  generalize Fl (b + d) = v at *
  generalize Fl a = x at *
  generalize Fl b = y at *
  generalize Fl c = z at *
  generalize Fl d = t at *
  go_enter Tryz.func76, Tryz.ntmps76
  go_wp2_with fail
  go_at_call 102
  refine (g1 _).mono ?_
  rintro e w2 ⟨rfl, rfl⟩
  go_wp2_with fail
  go_at_call 103
  refine (g2 _ _ (by simp) (by simp)).mono ?_
  rintro e w3 ⟨rfl, rfl⟩
  go_wp2_with fail
  go_at_call 101
  refine (g3 _).mono ?_
  rintro e w4 ⟨rfl, rfl⟩
  go_wp2_with fail
  refine bodyPost_ret (v := .tuple #[.complex .f64 u v, .int .i64 0]) (by simp [results, Tryz.results76, go_sem, *]) rfl ⟨rfl, (Below.refl _ _).alloc (Nat.le_refl _) _⟩
set_option maxRecDepth 100000 in
theorem gsub_calls (a b c d : Int) (ha : Pt a) (hb : Pt b) (hc : Pt c) (hd : Pt d) (h1 : Pt (a - c)) (h2 : Pt (b - d)) (w : World) : Calls Tryz.prog 77 #[(Value.complex .f64 (Fl a) (Fl b)), (Value.complex .f64 (Fl c) (Fl d))] w fun e w' => e = .returned (.tuple #[(Value.complex .f64 (Fl (a - c)) (Fl (b - d))), .int .i64 0]) ∧ Below w.heap.size w w' := by
  have g1 := gboth_calls a b c d ha hb hc hd
  obtain ⟨r, hr, zr⟩ := sub_zr (rep_fl ha) (rep_fl hc) h1
  obtain ⟨s, hs, zs⟩ := sub_zr (rep_fl hb) (rep_fl hd) h2
  have hr' := fun w => run_float_arith (P := Tryz.prog) (w := w) .sub 130 .f64 _ _ _ (fb_sub hr)
  have hs' := fun w => run_float_arith (P := Tryz.prog) (w := w) .sub 130 .f64 _ _ _ (fb_sub hs)
  have g2 := fun B w c0 c1 => small2_calls h1 h2 zr zs B w c0 c1
  have g3 := fun w => made_calls h1 h2 zr zs w
  clear hr hs zr zs h1 h2 ha hb hc hd
  generalize Fl (a - c) = u at *
  generalize Fl (b - d) = v at *
  generalize Fl a = x at *
  generalize Fl b = y at *
  generalize Fl c = z at *
  generalize Fl d = t at *
  go_enter Tryz.func77, Tryz.ntmps77
  go_wp2_with fail
  go_at_call 102
  refine (g1 _).mono ?_
  rintro e w2 ⟨rfl, rfl⟩
  go_wp2_with fail
  go_at_call 103
  refine (g2 _ _ (by simp) (by simp)).mono ?_
  rintro e w3 ⟨rfl, rfl⟩
  go_wp2_with fail
  go_at_call 101
  refine (g3 _).mono ?_
  rintro e w4 ⟨rfl, rfl⟩
  go_wp2_with fail
  refine bodyPost_ret (v := .tuple #[.complex .f64 u v, .int .i64 0]) (by simp [results, Tryz.results77, go_sem, *]) rfl ⟨rfl, (Below.refl _ _).alloc (Nat.le_refl _) _⟩
/-- Times i to the power k. -/
def turnG (k : Int) (a b : Int) : Int × Int := if k % 4 = 1 then (-b, a) else if k % 4 = 2 then (-a, -b) else if k % 4 = 3 then (b, -a) else (a, b)
theorem Pt.neg {a : Int} (h : Pt a) : Pt (-a) := by unfold Pt at *; rwa [Int.natAbs_neg]
theorem turnG_pt {k a b : Int} (ha : Pt a) (hb : Pt b) : Pt (turnG k a b).1 ∧ Pt (turnG k a b).2 := by
  unfold turnG
  split
  · exact ⟨hb.neg, ha⟩
  · split
    · exact ⟨ha.neg, hb.neg⟩
    · split
      · exact ⟨hb, ha.neg⟩
      · exact ⟨ha, hb⟩
set_option maxRecDepth 100000 in
set_option maxHeartbeats 1000000 in
theorem gturn_calls (a b k : Int) (ha : Pt a) (hb : Pt b) (w : World) : Calls Tryz.prog 73 #[(Value.complex .f64 (Fl a) (Fl b)), .int .i64 k] w fun e w' => e = .returned (.tuple #[(Value.complex .f64 (Fl ((turnG k a b).1)) (Fl ((turnG k a b).2))), .int .i64 0]) ∧ w' = w := by
  have g1 := gcheck_calls a b ha hb
  have hand : Go.bits .and .i64 k 3 = k % 4 := B.and3_i k
  have m1 := fun w => made_calls hb.neg ha (neg_zr hb) (.inl rfl) w
  have m2 := fun w => made_calls ha.neg hb.neg (neg_zr ha) (neg_zr hb) w
  have m3 := fun w => made_calls hb ha.neg (.inl rfl) (neg_zr ha) w
  have hk : k % 4 = 0 ∨ k % 4 = 1 ∨ k % 4 = 2 ∨ k % 4 = 3 := by omega
  unfold turnG
  rcases hk with e | e | e | e
  · rw [e] at hand ⊢
    simp only [show ¬ ((0 : Int) = 1) by decide, show ¬ ((0 : Int) = 2) by decide, show ¬ ((0 : Int) = 3) by decide, if_false]
    clear m1 m2 m3 ha hb e
    generalize Fl a = x at *
    generalize Fl b = y at *
    go_enter Tryz.func73, Tryz.ntmps73
    go_wp2_with fail
    go_at_call 91
    refine (g1 _).mono ?_
    rintro e w2 ⟨rfl, rfl⟩
    go_wp2_with fail
    refine bodyPost_ret (v := .tuple #[.complex .f64 x y, .int .i64 0]) (by simp [results, Tryz.results73, go_sem, *]) rfl ⟨rfl, rfl⟩
  · rw [e] at hand ⊢
    simp only [if_true]
    clear m2 m3 ha hb e
    generalize Fl (-b) = u at *
    generalize Fl a = x at *
    generalize Fl b = y at *
    go_enter Tryz.func73, Tryz.ntmps73
    go_wp2_with fail
    go_at_call 91
    refine (g1 _).mono ?_
    rintro e w2 ⟨rfl, rfl⟩
    go_wp2_with fail
    go_at_call 101
    refine (m1 _).mono ?_
    rintro e w3 ⟨rfl, rfl⟩
    go_wp2_with fail
    refine bodyPost_ret (v := .tuple #[.complex .f64 u x, .int .i64 0]) (by simp [results, Tryz.results73, go_sem, *]) rfl ⟨rfl, rfl⟩
  · rw [e] at hand ⊢
    simp only [show ¬ ((2 : Int) = 1) by decide, if_false, if_true]
    clear m1 m3 ha hb e
    generalize Fl (-b) = u at *
    generalize Fl (-a) = v at *
    generalize Fl a = x at *
    generalize Fl b = y at *
    go_enter Tryz.func73, Tryz.ntmps73
    go_wp2_with fail
    go_at_call 91
    refine (g1 _).mono ?_
    rintro e w2 ⟨rfl, rfl⟩
    go_wp2_with fail
    go_at_call 101
    refine (m2 _).mono ?_
    rintro e w3 ⟨rfl, rfl⟩
    go_wp2_with fail
    refine bodyPost_ret (v := .tuple #[.complex .f64 v u, .int .i64 0]) (by simp [results, Tryz.results73, go_sem, *]) rfl ⟨rfl, rfl⟩
  · rw [e] at hand ⊢
    simp only [show ¬ ((3 : Int) = 1) by decide, show ¬ ((3 : Int) = 2) by decide, if_false, if_true]
    clear m1 m2 ha hb e
    generalize Fl (-a) = v at *
    generalize Fl a = x at *
    generalize Fl b = y at *
    go_enter Tryz.func73, Tryz.ntmps73
    go_wp2_with fail
    go_at_call 91
    refine (g1 _).mono ?_
    rintro e w2 ⟨rfl, rfl⟩
    go_wp2_with fail
    go_at_call 101
    refine (m3 _).mono ?_
    rintro e w3 ⟨rfl, rfl⟩
    go_wp2_with fail
    refine bodyPost_ret (v := .tuple #[.complex .f64 y v, .int .i64 0]) (by simp [results, Tryz.results73, go_sem, *]) rfl ⟨rfl, rfl⟩
end Go.Proofs.YtlobgpgdknjhlaaGreat.WH
