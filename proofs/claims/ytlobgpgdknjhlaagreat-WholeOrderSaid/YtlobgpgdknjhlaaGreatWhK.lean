/- dense.term: walked. -/
import Derived.Test.YtlobgpgdknjhlaaGreatWhJ
namespace Go.Proofs.YtlobgpgdknjhlaaGreat.WH
open Go Go.RowKit Go.Proofs.YtlobgpgdknjhlaaGreat.F
set_option linter.unusedVariables false
set_option linter.unusedSimpArgs false
attribute [local go_sem] run_store_complex run_real run_imag run_complex run_fneg
theorem powers (j : Nat) (hj : j < 8) : ∀ k : Nat, k < j → turnR k oneR ≠ turnR j oneR := by
  have h : ∀ (j k : Fin 8), k.val < j.val → turnR k.val oneR ≠ turnR j.val oneR := by decide +kernel
  intro k hk
  exact h ⟨j, hj⟩ ⟨k, by omega⟩ hk
/-- An entry's box, an element's, the answer's cells. -/
structure TSt (w : World) (x y z t : Nat) (k : Int) (x' y' z' t' : Nat) (W : World) : Prop where
  below : Below w.heap.size w W
  lt : w.heap.size < W.heap.size
  c0 : W.cell? ⟨w.heap.size, 0, none⟩ = some (.complex .f64 x y)
  c1 : W.cell? ⟨w.heap.size, 1, none⟩ = some (.complex .f64 z t)
  c2 : W.cell? ⟨w.heap.size, 2, none⟩ = some (.int .i64 k)
  q : In2 W (w.heap.size + 1) x' y' z' t'
  o : In2 W (w.heap.size + 1 + 1) 0 0 0 0
theorem TSt.start (w : World) (x y z t : Nat) (k : Int) (x' y' z' t' : Nat) : TSt w x y z t k x' y' z' t' (((w.alloc (.cells #[.complex .f64 x y, .complex .f64 z t, .int .i64 k] 103)).alloc (.cells #[.complex .f64 x' y', .complex .f64 z' t'] 65)).alloc (.cells #[.complex .f64 0 0, .complex .f64 0 0] 65)) := by
  have hb : Below (w.alloc (.cells #[.complex .f64 x y, .complex .f64 z t, .int .i64 k] 103)).heap.size (w.alloc (.cells #[.complex .f64 x y, .complex .f64 z t, .int .i64 k] 103)) (((w.alloc (.cells #[.complex .f64 x y, .complex .f64 z t, .int .i64 k] 103)).alloc (.cells #[.complex .f64 x' y', .complex .f64 z' t'] 65)).alloc (.cells #[.complex .f64 0 0, .complex .f64 0 0] 65)) := (below1 _ _).alloc (by simp) _
  have hl : w.heap.size < (w.alloc (.cells #[.complex .f64 x y, .complex .f64 z t, .int .i64 k] 103)).heap.size := by simp
  exact ⟨(below1 _ _).trans (hb.mono (by simp)), by simp; omega, (hb.cell (p := ⟨w.heap.size, 0, none⟩) hl).trans (cell_at (newB _ _ rfl) rfl), (hb.cell (p := ⟨w.heap.size, 1, none⟩) hl).trans (cell_at (newB _ _ rfl) rfl), (hb.cell (p := ⟨w.heap.size, 2, none⟩) hl).trans (cell_at (newB _ _ rfl) rfl), (In2.new _ x' y' z' t' (by simp)).step (below1 _ _), In2.new _ 0 0 0 0 (by simp)⟩
theorem TSt.step {w W W' : World} {x y z t : Nat} {k : Int} {x' y' z' t' : Nat} (h : TSt w x y z t k x' y' z' t' W) (hb : Below W.heap.size W W') : TSt w x y z t k x' y' z' t' W' :=
  ⟨h.below.trans (hb.mono h.below.size), Nat.lt_of_lt_of_le h.lt hb.size, (hb.cell (p := ⟨w.heap.size, 0, none⟩) h.lt).trans h.c0, (hb.cell (p := ⟨w.heap.size, 1, none⟩) h.lt).trans h.c1, (hb.cell (p := ⟨w.heap.size, 2, none⟩) h.lt).trans h.c2, h.q.step hb, h.o.step hb⟩
def termR (j k ha : Nat) (r : Rg) : Rg := if k < ha then doubleR (turnR j r) else turnR j r
set_option maxRecDepth 100000 in
set_option maxHeartbeats 2000000 in
theorem term_calls (j k ha : Nat) (r : Rg) (hj : j < 8) (hk : k < 2) (h : r.Pt) (hd : k < ha → (doubleR (turnR j r)).Pt) (w : World) : Calls Tryz.prog 55 #[ampV (turnR j oneR) k, (Value.agg #[.complex .f64 (Fl r.a) (Fl r.b), .complex .f64 (Fl r.c) (Fl r.d)]), .int .i64 ha] w fun e w' => e = .returned (.tuple #[(Value.agg #[.complex .f64 (Fl (termR j k ha r).a) (Fl (termR j k ha r).b), .complex .f64 (Fl (termR j k ha r).c) (Fl (termR j k ha r).d)]), .int .i64 0]) ∧ Below w.heap.size w w' := by
  have g1 := fun w => rorder_calls (turnR j oneR) oneR (turnR_pt oneR_pt) oneR_pt j hj rfl (powers j hj) w
  have g2 := fun w => rturn_calls r j h w
  have h1 := bd65
  unfold ampV
  by_cases hkk : k < ha
  · skip
    have g3 := rdouble_calls (turnR j r) (turnR_pt h) (hd hkk)
    have e : termR j k ha r = doubleR (turnR j r) := if_pos hkk
    have hkI : (k : Int) < ha := by omega
    rw [e]
    clear e hd
    generalize turnR (j : Int) oneR = q at *
    simp only [oneR, fl_one, fl_zero] at g1
    generalize doubleR (turnR j r) = d at *
    generalize turnR (j : Int) r = s at *
    clear h
    have HK := Lib.hid (TSt.start w (Fl q.a) (Fl q.b) (Fl q.c) (Fl q.d) k (Fl r.a) (Fl r.b) (Fl r.c) (Fl r.d))
    generalize Fl q.a = x1 at *
    generalize Fl q.b = x2 at *
    generalize Fl q.c = x3 at *
    generalize Fl q.d = x4 at *
    generalize Fl r.a = y1 at *
    generalize Fl r.b = y2 at *
    generalize Fl r.c = y3 at *
    generalize Fl r.d = y4 at *
    generalize Fl s.a = z1 at *
    generalize Fl s.b = z2 at *
    generalize Fl s.c = z3 at *
    generalize Fl s.d = z4 at *
    generalize Fl d.a = u1 at *
    generalize Fl d.b = u2 at *
    generalize Fl d.c = u3 at *
    generalize Fl d.d = u4 at *
    obtain ⟨-, lt, c0, c1, c2, ⟨lq, q0, q1, fq⟩, ⟨lo, o0, o1, fo⟩⟩ := HK.out
    go_enter Tryz.func55, Tryz.ntmps55
    go_wp2_with fail
    go_at_call 75
    refine (g1 _).mono ?_
    rintro e w1 ⟨rfl, hb⟩
    replace HK := Lib.hid (HK.out.step hb)
    clear hb lt c0 c1 c2 lq q0 q1 fq lo o0 o1 fo
    obtain ⟨-, lt, c0, c1, c2, ⟨lq, q0, q1, fq⟩, ⟨lo, o0, o1, fo⟩⟩ := HK.out
    go_wp2_with fail
    go_at_call 44
    refine (g2 _).mono ?_
    rintro e w2 ⟨rfl, hb⟩
    have HL2 := Lib.hid (Nat.lt_of_lt_of_le HK.out.o.lt hb.size)
    replace hb := hb.trans ((below1 w2 (.cells #[.complex .f64 z1 z2, .complex .f64 z3 z4] 65)).mono hb.size)
    have HT := Lib.hid (In2.new w2 z1 z2 z3 z4 rfl)
    replace HK := Lib.hid (HK.out.step hb)
    clear hb lt c0 c1 c2 lq q0 q1 fq lo o0 o1 fo
    obtain ⟨-, lt, c0, c1, c2, ⟨lq, q0, q1, fq⟩, ⟨lo, o0, o1, fo⟩⟩ := HK.out
    obtain ⟨lt2, t0, t1, ft⟩ := HT.out
    go_wp2_with fail
    go_at_call 46
    refine (g3 _).mono ?_
    rintro e w3 ⟨rfl, hb⟩
    have HT2 := HT.out.step hb
    clear lt2 t0 t1 ft
    replace HK := Lib.hid (HK.out.step hb)
    clear hb lt c0 c1 c2 lq q0 q1 fq lo o0 o1 fo
    obtain ⟨-, lt, c0, c1, c2, ⟨lq, q0, q1, fq⟩, ⟨lo, o0, o1, fo⟩⟩ := HK.out
    have hl3 : w.heap.size + 1 + 1 < w2.heap.size := HL2.out
    obtain ⟨lt2, t0, t1, ft⟩ := HT2
    go_wp2_with fail
    refine bodyPost_ret (v := .tuple #[.agg #[.complex .f64 u1 u2, .complex .f64 u3 u4], .int .i64 0]) (by simp [results, Tryz.results55, go_sem, *]) rfl ⟨rfl, ?_⟩
    exact put2 (b := w.heap.size + 1 + 1) (put2 (b := w2.heap.size) HK.out.below (by omega) _ _) (by omega) _ _
  · skip
    have e : termR j k ha r = turnR j r := if_neg hkk
    have hkI : ¬ ((k : Int) < ha) := by omega
    rw [e]
    clear e hd
    generalize turnR (j : Int) oneR = q at *
    simp only [oneR, fl_one, fl_zero] at g1
    generalize turnR (j : Int) r = s at *
    clear h
    have HK := Lib.hid (TSt.start w (Fl q.a) (Fl q.b) (Fl q.c) (Fl q.d) k (Fl r.a) (Fl r.b) (Fl r.c) (Fl r.d))
    generalize Fl q.a = x1 at *
    generalize Fl q.b = x2 at *
    generalize Fl q.c = x3 at *
    generalize Fl q.d = x4 at *
    generalize Fl r.a = y1 at *
    generalize Fl r.b = y2 at *
    generalize Fl r.c = y3 at *
    generalize Fl r.d = y4 at *
    generalize Fl s.a = z1 at *
    generalize Fl s.b = z2 at *
    generalize Fl s.c = z3 at *
    generalize Fl s.d = z4 at *
    obtain ⟨-, lt, c0, c1, c2, ⟨lq, q0, q1, fq⟩, ⟨lo, o0, o1, fo⟩⟩ := HK.out
    go_enter Tryz.func55, Tryz.ntmps55
    go_wp2_with fail
    go_at_call 75
    refine (g1 _).mono ?_
    rintro e w1 ⟨rfl, hb⟩
    replace HK := Lib.hid (HK.out.step hb)
    clear hb lt c0 c1 c2 lq q0 q1 fq lo o0 o1 fo
    obtain ⟨-, lt, c0, c1, c2, ⟨lq, q0, q1, fq⟩, ⟨lo, o0, o1, fo⟩⟩ := HK.out
    go_wp2_with fail
    go_at_call 44
    refine (g2 _).mono ?_
    rintro e w2 ⟨rfl, hb⟩
    replace hb := hb.trans ((below1 w2 (.cells #[.complex .f64 z1 z2, .complex .f64 z3 z4] 65)).mono hb.size)
    have HT := Lib.hid (In2.new w2 z1 z2 z3 z4 rfl)
    replace HK := Lib.hid (HK.out.step hb)
    clear hb lt c0 c1 c2 lq q0 q1 fq lo o0 o1 fo
    obtain ⟨-, lt, c0, c1, c2, ⟨lq, q0, q1, fq⟩, ⟨lo, o0, o1, fo⟩⟩ := HK.out
    obtain ⟨lt2, t0, t1, ft⟩ := HT.out
    go_wp2_with fail
    refine bodyPost_ret (v := .tuple #[.agg #[.complex .f64 z1 z2, .complex .f64 z3 z4], .int .i64 0]) (by simp [results, Tryz.results55, go_sem, *]) rfl ⟨rfl, ?_⟩
    exact put2 (b := w.heap.size + 1 + 1) HK.out.below (by omega) _ _
end Go.Proofs.YtlobgpgdknjhlaaGreat.WH
