/- The package ring: walked. -/
import Derived.Test.YtlobgpgdknjhlaaGreatWhB
namespace Go.Proofs.YtlobgpgdknjhlaaGreat.WH
open Go Go.RowKit Go.Proofs.YtlobgpgdknjhlaaGreat.F
set_option linter.unusedVariables false
set_option linter.unusedSimpArgs false

theorem run_store_complex (P : Program) (w : World) (a : Addr) (m : Mode) (k : FloatKind) (x y : Nat) : (store a (.complex k x y) m).run P w = stored P w a (.complex k x y) m := run_store P w a _ m rfl
attribute [local go_sem] run_store_complex

/-- A + B w, the parts whole. -/
structure Rg where
  a : Int
  b : Int
  c : Int
  d : Int
  deriving DecidableEq
structure Rg.Pt (r : Rg) : Prop where
  a : WH.Pt r.a
  b : WH.Pt r.b
  c : WH.Pt r.c
  d : WH.Pt r.d
def addR (r s : Rg) : Rg := ⟨r.a + s.a, r.b + s.b, r.c + s.c, r.d + s.d⟩
def doubleR (r : Rg) : Rg := ⟨r.c - r.d, r.d + r.c, r.a + r.b, r.b - r.a⟩
def oddR (r : Rg) : Rg := ⟨-r.d, r.c, r.a, r.b⟩
def evenR (j : Int) (r : Rg) : Rg := ⟨(turnG j r.a r.b).1, (turnG j r.a r.b).2, (turnG j r.c r.d).1, (turnG j r.c r.d).2⟩
def turnR (k : Int) (r : Rg) : Rg := evenR (k % 8 / 2) (if k % 8 % 2 = 1 then oddR r else r)
theorem oddR_pt {r : Rg} (h : r.Pt) : (oddR r).Pt := ⟨h.d.neg, h.c, h.a, h.b⟩
theorem evenR_pt {j : Int} {r : Rg} (h : r.Pt) : (evenR j r).Pt := ⟨(turnG_pt h.a h.b).1, (turnG_pt h.a h.b).2, (turnG_pt h.c h.d).1, (turnG_pt h.c h.d).2⟩
theorem turnR_pt {k : Int} {r : Rg} (h : r.Pt) : (turnR k r).Pt := by
  unfold turnR
  split
  · exact evenR_pt (oddR_pt h)
  · exact evenR_pt h
theorem below1 (w : World) (o : Obj) : Below w.heap.size w (w.alloc o) := (Below.refl _ _).alloc (Nat.le_refl _) _
/-- Two words of complex numbers in a block. -/
structure In2 (W : World) (B x y z t : Nat) : Prop where
  lt : B < W.heap.size
  c0 : W.cell? ⟨B, 0, none⟩ = some (.complex .f64 x y)
  c1 : W.cell? ⟨B, 1, none⟩ = some (.complex .f64 z t)
  f : ∀ i, W.frozen? ⟨B, i, none⟩ = false
theorem In2.step {W W' : World} {B x y z t : Nat} (h : In2 W B x y z t) (hb : Below W.heap.size W W') : In2 W' B x y z t :=
  ⟨Nat.lt_of_lt_of_le h.lt hb.size, (hb.cell (p := ⟨B, 0, none⟩) h.lt).trans h.c0, (hb.cell (p := ⟨B, 1, none⟩) h.lt).trans h.c1, fun i => (hb.frozen (p := ⟨B, i, none⟩) h.lt).trans (h.f i)⟩
theorem cell_at {W : World} {B i : Nat} {cs : Array Value} {t : TypeId} {v : Value} (h : W.heap[B]? = some (.cells cs t)) (hv : cs[i]? = some v) : W.cell? ⟨B, i, none⟩ = some v := by
  simp only [World.cell?, h]
  exact hv
theorem free_at {W : World} {B i : Nat} {cs : Array Value} {t : TypeId} (h : W.heap[B]? = some (.cells cs t)) : W.frozen? ⟨B, i, none⟩ = false := by
  simp only [World.frozen?, h]
  simp
theorem newB (W : World) (o : Obj) {k : Nat} (h : k = W.heap.size) : (W.alloc o).heap[k]? = some o := h ▸ heap_alloc_new W o
theorem In2.new (W : World) (x y z t : Nat) {B : Nat} (h : B = W.heap.size) : In2 (W.alloc (.cells #[.complex .f64 x y, .complex .f64 z t] 65)) B x y z t :=
  ⟨by subst h; simp, cell_at (newB _ _ h) rfl, cell_at (newB _ _ h) rfl, fun i => free_at (newB _ _ h)⟩
theorem put2 {B : Nat} {w W : World} (h : Below B w W) {b : Nat} (hb : B ≤ b) (v0 v1 : Value) : Below B w ((W.setCell ⟨b, 0, none⟩ v0).setCell ⟨b, 1, none⟩ v1) :=
  (h.setCell (p := ⟨b, 0, none⟩) hb v0).setCell (p := ⟨b, 1, none⟩) hb v1

/-- Two elements in boxes, the answer's cells behind them. -/
structure Two2 (w : World) (x y z t x' y' z' t' : Nat) (W : World) : Prop where
  below : Below w.heap.size w W
  p : In2 W w.heap.size x y z t
  q : In2 W (w.heap.size + 1) x' y' z' t'
  o : In2 W (w.heap.size + 1 + 1) 0 0 0 0
theorem Two2.start (w : World) (x y z t x' y' z' t' : Nat) : Two2 w x y z t x' y' z' t' (((w.alloc (.cells #[.complex .f64 x y, .complex .f64 z t] 65)).alloc (.cells #[.complex .f64 x' y', .complex .f64 z' t'] 65)).alloc (.cells #[.complex .f64 0 0, .complex .f64 0 0] 65)) :=
  ⟨((below1 w _).alloc (by simp) _).alloc (by simp; omega) _, ((In2.new w x y z t rfl).step (below1 _ _)).step (below1 _ _), (In2.new _ x' y' z' t' (by simp)).step (below1 _ _), In2.new _ 0 0 0 0 (by simp)⟩
theorem Two2.step {w W W' : World} {x y z t x' y' z' t' : Nat} (h : Two2 w x y z t x' y' z' t' W) (hb : Below W.heap.size W W') : Two2 w x y z t x' y' z' t' W' :=
  ⟨h.below.trans (hb.mono h.below.size), h.p.step hb, h.q.step hb, h.o.step hb⟩

set_option maxRecDepth 100000 in
theorem pair_calls (x y z t : Nat) (w : World) : Calls Tryz.prog 74 #[.complex .f64 x y, .int .i64 0, .complex .f64 z t, .int .i64 0] w fun e w' => e = .returned (.tuple #[.agg #[.complex .f64 x y, .complex .f64 z t], .int .i64 0]) ∧ Below w.heap.size w w' := by
  have hbd : ∀ (a b c d : Nat) (w : World), (Instr.build 65 #[(0, .complex .f64 a b), (1, .complex .f64 c d)]).run Tryz.prog w = .ok (.agg #[.complex .f64 a b, .complex .f64 c d]) w := fun a b c d w => run_build w 65 _ _ (by kernel_rfl)
  go_enter Tryz.func74, Tryz.ntmps74
  go_wp2_with fail
  refine bodyPost_ret (v := .tuple #[.agg #[.complex .f64 x y, .complex .f64 z t], .int .i64 0]) (by simp [results, Tryz.results74, go_sem, *]) rfl ⟨rfl, ?_⟩
  exact below1 _ _
set_option maxRecDepth 100000 in
theorem rcheck_calls (r : Rg) (h : r.Pt) (w : World) : Calls Tryz.prog 63 #[(Value.agg #[.complex .f64 (Fl r.a) (Fl r.b), .complex .f64 (Fl r.c) (Fl r.d)])] w fun e w' => e = .returned (.int .i64 0) ∧ Below w.heap.size w w' := by
  have g1 := gcheck_calls r.a r.b h.a h.b
  have g2 := gcheck_calls r.c r.d h.c h.d
  generalize Fl r.a = x at *
  generalize Fl r.b = y at *
  generalize Fl r.c = z at *
  generalize Fl r.d = t at *
  have hB := below1 w (.cells #[.complex .f64 x y, .complex .f64 z t] 65)
  go_enter Tryz.func63, Tryz.ntmps63
  go_wp2_with fail
  go_at_call 91
  refine (g1 _).mono ?_
  rintro e w2 ⟨rfl, rfl⟩
  go_wp2_with fail
  go_at_call 91
  refine (g2 _).mono ?_
  rintro e w3 ⟨rfl, rfl⟩
  go_wp2_with fail
  go_ret
  exact ⟨rfl, hB⟩
set_option maxRecDepth 100000 in
theorem rboth_calls (r s : Rg) (h : r.Pt) (h' : s.Pt) (w : World) : Calls Tryz.prog 78 #[(Value.agg #[.complex .f64 (Fl r.a) (Fl r.b), .complex .f64 (Fl r.c) (Fl r.d)]), (Value.agg #[.complex .f64 (Fl s.a) (Fl s.b), .complex .f64 (Fl s.c) (Fl s.d)])] w fun e w' => e = .returned (.int .i64 0) ∧ Below w.heap.size w w' := by
  have g1 := rcheck_calls r h
  have g2 := rcheck_calls s h'
  generalize Fl r.a = x at *
  generalize Fl r.b = y at *
  generalize Fl r.c = z at *
  generalize Fl r.d = t at *
  generalize Fl s.a = x' at *
  generalize Fl s.b = y' at *
  generalize Fl s.c = z' at *
  generalize Fl s.d = t' at *
  have HP := Lib.hid ((In2.new w x y z t rfl).step (below1 _ (.cells #[.complex .f64 x' y', .complex .f64 z' t'] 65)))
  have HQ := Lib.hid (In2.new (w.alloc (.cells #[.complex .f64 x y, .complex .f64 z t] 65)) x' y' z' t' (B := w.heap.size + 1) (by simp))
  have HB := Lib.hid ((below1 w (.cells #[.complex .f64 x y, .complex .f64 z t] 65)).trans ((below1 _ (.cells #[.complex .f64 x' y', .complex .f64 z' t'] 65)).mono (by simp)))
  obtain ⟨lp, p0, p1, -⟩ := HP.out
  obtain ⟨lq, q0, q1, -⟩ := HQ.out
  go_enter Tryz.func78, Tryz.ntmps78
  go_wp2_with fail
  go_at_call 63
  refine (g1 _).mono ?_
  rintro e w2 ⟨rfl, hb⟩
  have HQ2 := HQ.out.step hb
  have HB2 := Lib.hid (HB.out.trans (hb.mono HB.out.size))
  clear hb lp p0 p1 lq q0 q1 HP HQ HB
  obtain ⟨lq, q0, q1, -⟩ := HQ2
  go_wp2_with fail
  go_at_call 63
  refine (g2 _).mono ?_
  rintro e w3 ⟨rfl, hb⟩
  have HB3 := Lib.hid (HB2.out.trans (hb.mono HB2.out.size))
  clear hb lq q0 q1
  go_wp2_with fail
  go_ret
  exact ⟨rfl, HB3.out⟩
set_option maxRecDepth 100000 in
set_option maxHeartbeats 1000000 in
theorem radd_calls (r s : Rg) (h : r.Pt) (h' : s.Pt) (hs : (addR r s).Pt) (w : World) : Calls Tryz.prog 48 #[(Value.agg #[.complex .f64 (Fl r.a) (Fl r.b), .complex .f64 (Fl r.c) (Fl r.d)]), (Value.agg #[.complex .f64 (Fl s.a) (Fl s.b), .complex .f64 (Fl s.c) (Fl s.d)])] w fun e w' => e = .returned (.tuple #[(Value.agg #[.complex .f64 (Fl (addR r s).a) (Fl (addR r s).b), .complex .f64 (Fl (addR r s).c) (Fl (addR r s).d)]), .int .i64 0]) ∧ Below w.heap.size w w' := by
  have g1 := rboth_calls r s h h'
  have g2 := gadd_calls r.a r.b s.a s.b h.a h.b h'.a h'.b hs.a hs.b
  have g3 := gadd_calls r.c r.d s.c s.d h.c h.d h'.c h'.d hs.c hs.d
  unfold addR
  simp only
  generalize Fl (r.a + s.a) = x2 at *
  generalize Fl (r.b + s.b) = y2 at *
  generalize Fl (r.c + s.c) = z2 at *
  generalize Fl (r.d + s.d) = t2 at *
  generalize Fl r.a = x at *
  generalize Fl r.b = y at *
  generalize Fl r.c = z at *
  generalize Fl r.d = t at *
  generalize Fl s.a = x' at *
  generalize Fl s.b = y' at *
  generalize Fl s.c = z' at *
  generalize Fl s.d = t' at *
  clear h h' hs
  have g4 := pair_calls x2 y2 z2 t2
  have HK := Lib.hid (Two2.start w x y z t x' y' z' t')
  obtain ⟨-, ⟨lp, p0, p1, -⟩, ⟨lq, q0, q1, -⟩, ⟨lo, o0, o1, fo⟩⟩ := HK.out
  go_enter Tryz.func48, Tryz.ntmps48
  go_wp2_with fail
  go_at_call 78
  refine (g1 _).mono ?_
  rintro e w' ⟨rfl, hb⟩
  replace HK := Lib.hid (HK.out.step hb)
  clear hb lp p0 p1 lq q0 q1 lo o0 o1 fo
  obtain ⟨-, ⟨lp, p0, p1, -⟩, ⟨lq, q0, q1, -⟩, ⟨lo, o0, o1, fo⟩⟩ := HK.out
  go_wp2_with fail
  go_at_call 76
  refine (g2 _).mono ?_
  rintro e w' ⟨rfl, hb⟩
  replace HK := Lib.hid (HK.out.step hb)
  clear hb lp p0 p1 lq q0 q1 lo o0 o1 fo
  obtain ⟨-, ⟨lp, p0, p1, -⟩, ⟨lq, q0, q1, -⟩, ⟨lo, o0, o1, fo⟩⟩ := HK.out
  go_wp2_with fail
  go_at_call 76
  refine (g3 _).mono ?_
  rintro e w' ⟨rfl, hb⟩
  replace HK := Lib.hid (HK.out.step hb)
  clear hb lp p0 p1 lq q0 q1 lo o0 o1 fo
  obtain ⟨-, ⟨lp, p0, p1, -⟩, ⟨lq, q0, q1, -⟩, ⟨lo, o0, o1, fo⟩⟩ := HK.out
  go_wp2_with fail
  go_at_call 74
  refine (g4 _).mono ?_
  rintro e w' ⟨rfl, hb⟩
  replace HK := Lib.hid (HK.out.step hb)
  clear hb lp p0 p1 lq q0 q1 lo o0 o1 fo
  obtain ⟨-, ⟨lp, p0, p1, -⟩, ⟨lq, q0, q1, -⟩, ⟨lo, o0, o1, fo⟩⟩ := HK.out
  go_wp2_with fail
  refine bodyPost_ret (v := .tuple #[.agg #[.complex .f64 x2 y2, .complex .f64 z2 t2], .int .i64 0]) (by simp [results, Tryz.results48, go_sem, *]) rfl ⟨rfl, ?_⟩
  exact put2 HK.out.below (by omega) _ _
end Go.Proofs.YtlobgpgdknjhlaaGreat.WH
