/- ring.Halve, ring.Order: walked. -/
import Derived.Test.YtlobgpgdknjhlaaGreatWhD
namespace Go.Proofs.YtlobgpgdknjhlaaGreat.WH
open Go Go.RowKit Go.Proofs.YtlobgpgdknjhlaaGreat.F
set_option linter.unusedVariables false
set_option linter.unusedSimpArgs false
attribute [local go_sem] run_store_complex run_real run_imag run_complex run_fneg
theorem belowD {b : Nat} {w w' : World} (h : Below b w w') (n : Nat) : Below b w (w'.drewN n) := h.trans ⟨rfl, rfl, rfl, Nat.le_refl _, fun _ _ => rfl⟩
def evn (r : Rg) : Bool := (r.a + r.b) % 2 == 0 && (r.c + r.d) % 2 == 0
def halveR (r : Rg) : Rg := ⟨(r.c - r.d) / 2, (r.c + r.d) / 2, (r.a + r.b) / 2, (r.b - r.a) / 2⟩
theorem halveR_pt {r : Rg} (h : r.Pt) : (halveR r).Pt := by
  obtain ⟨a, b, c, d⟩ := h
  unfold Pt at a b c d
  unfold halveR
  refine ⟨?_, ?_, ?_, ?_⟩ <;> (unfold Pt; simp only; omega)

set_option maxRecDepth 100000 in
set_option maxHeartbeats 2000000 in
theorem rhalve_yes (r : Rg) (h : r.Pt) (he : evn r = true) (w : World) : Calls Tryz.prog 79 #[(Value.agg #[.complex .f64 (Fl r.a) (Fl r.b), .complex .f64 (Fl r.c) (Fl r.d)])] w fun e w' => e = .returned (.tuple #[(Value.agg #[.complex .f64 (Fl (halveR r).a) (Fl (halveR r).b), .complex .f64 (Fl (halveR r).c) (Fl (halveR r).d)]), .bool true, .int .i64 0]) ∧ Below w.heap.size w w' := by
  have hbd : ∀ (a b c d : Nat) (w : World), (Instr.build 65 #[(0, .complex .f64 a b), (1, .complex .f64 c d)]).run Tryz.prog w = .ok (.agg #[.complex .f64 a b, .complex .f64 c d]) w := fun a b c d w => run_build w 65 _ _ (by kernel_rfl)
  have g1 := rcheck_calls r h
  have hev : (r.a + r.b) % 2 = 0 ∧ (r.c + r.d) % 2 = 0 := by
    unfold evn at he
    simpa using he
  have g2 := even_calls r.a r.b h.a h.b
  have g3 := even_calls r.c r.d h.c h.d
  rw [hev.1] at g2
  rw [hev.2] at g3
  simp only [beq_self_eq_true] at g2 g3
  have v1 := fun w => conv_fl h.a w
  have v2 := fun w => conv_fl h.b w
  have v3 := fun w => conv_fl h.c w
  have v4 := fun w => conv_fl h.d w
  have d1 : (r.c - r.d).tdiv 2 = (r.c - r.d) / 2 := Int.tdiv_eq_ediv_of_dvd (by omega)
  have d2 : (r.c + r.d).tdiv 2 = (r.c + r.d) / 2 := Int.tdiv_eq_ediv_of_dvd (by omega)
  have d3 : (r.a + r.b).tdiv 2 = (r.a + r.b) / 2 := Int.tdiv_eq_ediv_of_dvd (by omega)
  have d4 : (r.b - r.a).tdiv 2 = (r.b - r.a) / 2 := Int.tdiv_eq_ediv_of_dvd (by omega)
  have hfo : ∀ n, floatOfInt .f64 n = Fl n := fun _ => rfl
  have ba : -9007199254740992 < r.a ∧ r.a < 9007199254740992 := by have := h.a; unfold Pt at this; omega
  have bb : -9007199254740992 < r.b ∧ r.b < 9007199254740992 := by have := h.b; unfold Pt at this; omega
  have bc : -9007199254740992 < r.c ∧ r.c < 9007199254740992 := by have := h.c; unfold Pt at this; omega
  have bd : -9007199254740992 < r.d ∧ r.d < 9007199254740992 := by have := h.d; unfold Pt at this; omega
  have mixed : Tryz.prog.follows Departure.mixedOrders = true := by kernel_rfl
  unfold halveR
  simp only
  clear he hev h
  obtain ⟨a, b, c, d⟩ := r
  simp only at *
  have wX : wrap64 ((c - d) / 2) = (c - d) / 2 := by unfold wrap64; omega
  have wY : wrap64 ((c + d) / 2) = (c + d) / 2 := by unfold wrap64; omega
  have wZ : wrap64 ((a + b) / 2) = (a + b) / 2 := by unfold wrap64; omega
  have wT : wrap64 ((b - a) / 2) = (b - a) / 2 := by unfold wrap64; omega
  generalize hX : (c - d) / 2 = X at *
  generalize hY : (c + d) / 2 = Y at *
  generalize hZ : (a + b) / 2 = Z at *
  generalize hT : (b - a) / 2 = T at *
  clear hX hY hZ hT
  generalize Fl a = x at *
  generalize Fl b = y at *
  generalize Fl c = z at *
  generalize Fl d = t at *
  have HK := Lib.hid (One2.start w x y z t)
  obtain ⟨-, ⟨lp, p0, p1, fp⟩, ⟨lo, o0, o1, fo⟩⟩ := HK.out
  go_enter Tryz.func79, Tryz.ntmps79
  go_wp2_with fail
  go_at_call 63
  refine (g1 _).mono ?_
  rintro e w' ⟨rfl, hb⟩
  replace HK := Lib.hid (HK.out.step hb)
  clear hb lp p0 p1 fp lo o0 o1 fo
  obtain ⟨-, ⟨lp, p0, p1, fp⟩, ⟨lo, o0, o1, fo⟩⟩ := HK.out
  go_wp2_with fail
  go_at_call 104
  refine (g2 _).mono ?_
  rintro e w' ⟨rfl, rfl⟩
  go_wp2_with fail
  go_at_call 104
  refine (g3 _).mono ?_
  rintro e w' ⟨rfl, rfl⟩
  go_wp2_with fail
  go_quiet (fail)
  go_wp2_with fail
  go_quiet (fail)
  go_wp2_with fail
  refine bodyPost_ret (v := .tuple #[.agg #[.complex .f64 (Fl X) (Fl Y), .complex .f64 (Fl Z) (Fl T)], .bool true, .int .i64 0]) (by simp [results, Tryz.results79, go_sem, *]) rfl ⟨rfl, ?_⟩
  exact put2 (b := w.heap.size + 1) (belowD HK.out.below _) (Nat.le_succ _) _ _

set_option maxRecDepth 100000 in
set_option maxHeartbeats 2000000 in
theorem rhalve_no (r : Rg) (h : r.Pt) (he : evn r = false) (w : World) : Calls Tryz.prog 79 #[(Value.agg #[.complex .f64 (Fl r.a) (Fl r.b), .complex .f64 (Fl r.c) (Fl r.d)])] w fun e w' => e = .returned (.tuple #[.agg #[.complex .f64 0 0, .complex .f64 0 0], .bool false, .int .i64 0]) ∧ Below w.heap.size w w' := by
  have hbz : ∀ (w : World), (Instr.build 65 #[]).run Tryz.prog w = .ok (.agg #[.complex .f64 0 0, .complex .f64 0 0]) w := fun w => run_build w 65 _ _ (by kernel_rfl)
  have g1 := rcheck_calls r h
  by_cases h0 : (r.a + r.b) % 2 = 0
  · have h1 : (r.c + r.d) % 2 ≠ 0 := fun e => by simp [evn, h0, e] at he
    have g2 := even_calls r.a r.b h.a h.b
    have g3 := even_calls r.c r.d h.c h.d
    rw [h0] at g2
    rw [beq_eq_false_iff_ne.2 h1] at g3
    simp only [beq_self_eq_true] at g2
    clear h h1 he h0
    generalize Fl r.a = x at *
    generalize Fl r.b = y at *
    generalize Fl r.c = z at *
    generalize Fl r.d = t at *
    have HK := Lib.hid (One2.start w x y z t)
    obtain ⟨-, ⟨lp, p0, p1, fp⟩, ⟨lo, o0, o1, fo⟩⟩ := HK.out
    go_enter Tryz.func79, Tryz.ntmps79
    go_wp2_with fail
    go_at_call 63
    refine (g1 _).mono ?_
    rintro e w' ⟨rfl, hb⟩
    replace HK := Lib.hid (HK.out.step hb)
    clear hb lp p0 p1 fp lo o0 o1 fo
    obtain ⟨-, ⟨lp, p0, p1, fp⟩, ⟨lo, o0, o1, fo⟩⟩ := HK.out
    go_wp2_with fail
    go_at_call 104
    refine (g2 _).mono ?_
    rintro e w' ⟨rfl, rfl⟩
    go_wp2_with fail
    go_at_call 104
    refine (g3 _).mono ?_
    rintro e w' ⟨rfl, rfl⟩
    go_wp2_with fail
    refine bodyPost_ret (v := .tuple #[.agg #[.complex .f64 0 0, .complex .f64 0 0], .bool false, .int .i64 0]) (by simp [results, Tryz.results79, go_sem, *]) rfl ⟨rfl, ?_⟩
    exact put2 HK.out.below (by omega) _ _
  · have h1 := h0
    clear h0
    have g2 := even_calls r.a r.b h.a h.b
    rw [beq_eq_false_iff_ne.2 h1] at g2
    clear h h1 he
    generalize Fl r.a = x at *
    generalize Fl r.b = y at *
    generalize Fl r.c = z at *
    generalize Fl r.d = t at *
    have HK := Lib.hid (One2.start w x y z t)
    obtain ⟨-, ⟨lp, p0, p1, fp⟩, ⟨lo, o0, o1, fo⟩⟩ := HK.out
    go_enter Tryz.func79, Tryz.ntmps79
    go_wp2_with fail
    go_at_call 63
    refine (g1 _).mono ?_
    rintro e w' ⟨rfl, hb⟩
    replace HK := Lib.hid (HK.out.step hb)
    clear hb lp p0 p1 fp lo o0 o1 fo
    obtain ⟨-, ⟨lp, p0, p1, fp⟩, ⟨lo, o0, o1, fo⟩⟩ := HK.out
    go_wp2_with fail
    go_at_call 104
    refine (g2 _).mono ?_
    rintro e w' ⟨rfl, rfl⟩
    go_wp2_with fail
    refine bodyPost_ret (v := .tuple #[.agg #[.complex .f64 0 0, .complex .f64 0 0], .bool false, .int .i64 0]) (by simp [results, Tryz.results79, go_sem, *]) rfl ⟨rfl, ?_⟩
    exact put2 HK.out.below (by omega) _ _

theorem fl_eqb {a b : Int} (ha : Pt a) (hb : Pt b) : Op.floatEq .f64 (Fl a) (Fl b) = (a == b) := rep_eql (rep_fl ha) (rep_fl hb)
theorem eq63g (d : Nat) (a b a' b' : Nat) (w : World) : (Op.equalIn (d + 1) 63 (.complex .f64 a b) (.complex .f64 a' b')).run Tryz.prog w = .ok (Op.floatEq .f64 a a' && Op.floatEq .f64 b b') w := by
  simp [Op.equalIn, run_underlying Tryz.underlying63]
theorem eq63 (a b a' b' : Nat) (w : World) : (Op.equalIn 9999 63 (.complex .f64 a b) (.complex .f64 a' b')).run Tryz.prog w = .ok (Op.floatEq .f64 a a' && Op.floatEq .f64 b b') w := eq63g 9998 a b a' b' w
structure Ord3 (w : World) (x y z t x' y' z' t' : Nat) (W : World) : Prop where
  below : Below w.heap.size w W
  p : In2 W w.heap.size x y z t
  q : In2 W (w.heap.size + 1) x' y' z' t'
theorem Ord3.start (w : World) (x y z t x' y' z' t' : Nat) : Ord3 w x y z t x' y' z' t' ((w.alloc (.cells #[.complex .f64 x y, .complex .f64 z t] 65)).alloc (.cells #[.complex .f64 x' y', .complex .f64 z' t'] 65)) :=
  ⟨(below1 w _).alloc (by simp) _, (In2.new w x y z t rfl).step (below1 _ _), In2.new _ x' y' z' t' (by simp)⟩
theorem Ord3.step {w W W' : World} {x y z t x' y' z' t' : Nat} (h : Ord3 w x y z t x' y' z' t' W) (hb : Below W.heap.size W W') : Ord3 w x y z t x' y' z' t' W' :=
  ⟨h.below.trans (hb.mono h.below.size), h.p.step hb, h.q.step hb⟩
set_option maxRecDepth 100000 in
set_option maxHeartbeats 4000000 in
theorem rorder_calls (r s : Rg) (h : r.Pt) (h' : s.Pt) (k0 : Nat) (hk : k0 < 8) (he : turnR k0 s = r) (hn : ∀ k : Nat, k < k0 → turnR k s ≠ r) (w : World) : Calls Tryz.prog 75 #[(Value.agg #[.complex .f64 (Fl r.a) (Fl r.b), .complex .f64 (Fl r.c) (Fl r.d)]), (Value.agg #[.complex .f64 (Fl s.a) (Fl s.b), .complex .f64 (Fl s.c) (Fl s.d)])] w fun e w' => e = .returned (.tuple #[.int .i64 k0, .bool true]) ∧ Below w.heap.size w w' := by
  have g1 := rboth_calls r s h h'
  have g2 := fun (k : Int) w => rturn_calls s k h' w
  have hcx := eq63
  have HE := Lib.hid he
  have HN := Lib.hid hn
  have HR := Lib.hid h
  have HT := Lib.hid (fun k : Int => turnR_pt (k := k) h')
  clear h h' he hn
  have HK := Lib.hid (Ord3.start w (Fl r.a) (Fl r.b) (Fl r.c) (Fl r.d) (Fl s.a) (Fl s.b) (Fl s.c) (Fl s.d))
  obtain ⟨-, ⟨lp, p0, p1, -⟩, ⟨lq, q0, q1, -⟩⟩ := HK.out
  go_enter Tryz.func75, Tryz.ntmps75
  go_wp2_with fail
  go_at_call 78
  refine (g1 _).mono ?_
  rintro e w1 ⟨rfl, hb⟩
  replace HK := Lib.hid (HK.out.step hb)
  clear hb lp p0 p1 lq q0 q1 g1
  go_wp2_with fail
  go_loopw [13] (fun sk W => ∃ k : Nat, k ≤ k0 ∧ sk = .int .i64 k ∧ Ord3 w (Fl r.a) (Fl r.b) (Fl r.c) (Fl r.d) (Fl s.a) (Fl s.b) (Fl s.c) (Fl s.d) W) (fun sk _ => 8 - (intOf sk).toNat)
  case atStart => exact ⟨0, Nat.zero_le _, rfl, HK.out⟩
  case round =>
    clear HK
    obtain ⟨k, hkk, rfl, hst⟩ := hrel
    have HK := Lib.hid hst
    clear hst
    obtain ⟨-, ⟨lp, p0, p1, -⟩, ⟨lq, q0, q1, -⟩⟩ := HK.out
    have g3 := g2 k
    have hT := HT.out k
    have f1 := fl_eqb hT.a HR.out.a
    have f2 := fl_eqb hT.b HR.out.b
    have f3 := fl_eqb hT.c HR.out.c
    have f4 := fl_eqb hT.d HR.out.d
    have hk8 : (k : Int) < 8 := by omega
    clear hT g2
    generalize hTT : turnR k s = T at *
    have HTT := Lib.hid hTT
    clear hTT
    go_wp2_with fail
    go_at_call 44
    refine (g3 _).mono ?_
    rintro e w2 ⟨rfl, hb⟩
    have HK2 := Lib.hid ((HK.out.step hb).step (below1 w2 (.cells #[.complex .f64 (Fl T.a) (Fl T.b), .complex .f64 (Fl T.c) (Fl T.d)] 65)))
    have HT2 := In2.new w2 (Fl T.a) (Fl T.b) (Fl T.c) (Fl T.d) rfl
    obtain ⟨-, c0, c1, -⟩ := HT2
    clear hb lp p0 p1 lq q0 q1 HK
    obtain ⟨-, ⟨lp, p0, p1, -⟩, -⟩ := HK2.out
    by_cases hT : T = r
    · have e1 : k = k0 := by
        rcases Nat.lt_or_ge k k0 with h | h
        · exact absurd (HTT.out.trans hT) (HN.out k h)
        · omega
      subst e1
      subst hT
      simp only [beq_self_eq_true] at f1 f2 f3 f4
      clear HTT HN HE HR HT
      generalize Fl T.a = x at *
      generalize Fl T.b = y at *
      generalize Fl T.c = z at *
      generalize Fl T.d = t at *
      go_wp2_with fail
      refine bodyPost_ret (v := .tuple #[.int .i64 k, .bool true]) (by simp [results, Tryz.results75, go_sem, *]) rfl ⟨rfl, HK2.out.below⟩
    · have hlt : k < k0 := by
        rcases Nat.lt_or_ge k k0 with h | h
        · exact h
        · have e1 : k = k0 := by omega
          subst e1
          exact absurd (HTT.out.symm.trans HE.out) hT
      have hne : ¬ (T.a = r.a ∧ T.b = r.b ∧ T.c = r.c ∧ T.d = r.d) := fun ⟨h1, h2, h3, h4⟩ => hT (by cases T; cases r; simp_all)
      have HK3 := Lib.hid HK2.out
      by_cases b1 : T.a = r.a
      · rw [b1, beq_self_eq_true] at f1
        by_cases b2 : T.b = r.b
        · rw [b2, beq_self_eq_true] at f2
          by_cases b3 : T.c = r.c
          · rw [b3, beq_self_eq_true] at f3
            have b4 : ¬ T.d = r.d := fun e => hne ⟨b1, b2, b3, e⟩
            rw [beq_eq_false_iff_ne.2 b4] at f4
            rw [b1] at c0
            rw [b2] at c0
            rw [b3] at c1
            clear HTT HN HE HR HT hne hT HK2
            try clear b1
            try clear b2
            try clear b3
            try clear b4
            go_wp2_with fail
            go_roundw
            case rel => exact ⟨k + 1, by omega, by go_num, HK3.out⟩
            case measure => simp [intOf]; omega
          · rw [beq_eq_false_iff_ne.2 b3] at f3
            rw [b1] at c0
            rw [b2] at c0
            clear HTT HN HE HR HT hne hT HK2
            try clear b1
            try clear b2
            try clear b3
            try clear b4
            go_wp2_with fail
            go_roundw
            case rel => exact ⟨k + 1, by omega, by go_num, HK3.out⟩
            case measure => simp [intOf]; omega
        · rw [beq_eq_false_iff_ne.2 b2] at f2
          rw [b1] at c0
          clear HTT HN HE HR HT hne hT HK2
          try clear b1
          try clear b2
          try clear b3
          try clear b4
          go_wp2_with fail
          go_roundw
          case rel => exact ⟨k + 1, by omega, by go_num, HK3.out⟩
          case measure => simp [intOf]; omega
      · rw [beq_eq_false_iff_ne.2 b1] at f1
        clear HTT HN HE HR HT hne hT HK2
        try clear b1
        try clear b2
        try clear b3
        try clear b4
        go_wp2_with fail
        go_roundw
        case rel => exact ⟨k + 1, by omega, by go_num, HK3.out⟩
        case measure => simp [intOf]; omega
end Go.Proofs.YtlobgpgdknjhlaaGreat.WH
