/- (cell).value: walked. -/
import Derived.Test.YtlobgpgdknjhlaaGreatWhI
namespace Go.Proofs.YtlobgpgdknjhlaaGreat.WH
open Go Go.RowKit Go.Proofs.YtlobgpgdknjhlaaGreat.F
set_option linter.unusedVariables false
set_option linter.unusedSimpArgs false
attribute [local go_sem] run_store_complex run_real run_imag run_complex run_fneg
def oneR : Rg := ⟨1, 0, 0, 0⟩
theorem fl_one : Fl 1 = 4607182418800017408 := by decide +kernel
theorem oneR_pt : oneR.Pt := ⟨by unfold Pt oneR; decide, by unfold Pt oneR; decide, by unfold Pt oneR; decide, by unfold Pt oneR; decide⟩
/-- The entry's power of w. -/
def Ce.r (c : Ce) : Rg := turnR c.turn oneR
def ampV (r : Rg) (k : Nat) : Value := .agg #[.complex .f64 (Fl r.a) (Fl r.b), .complex .f64 (Fl r.c) (Fl r.d), .int .i64 k]
theorem bd65 (a b : Nat) (w : World) : (Instr.build 65 #[(0, .complex .f64 a b)]).run Tryz.prog w = .ok (.agg #[.complex .f64 a b, .complex .f64 0 0]) w := run_build w 65 _ _ (by kernel_rfl)
theorem bd103 (a b c d : Nat) (k : Int) (w : World) : (Instr.build 103 #[(0, .agg #[.complex .f64 a b, .complex .f64 c d]), (1, .int .i64 k)]).run Tryz.prog w = .ok (.agg #[.complex .f64 a b, .complex .f64 c d, .int .i64 k]) w := run_build w 103 _ _ (by kernel_rfl)
/-- An entry's box, the answer's cells behind it. -/
structure VSt (w : World) (c : Ce) (W : World) : Prop where
  below : Below w.heap.size w W
  lt : w.heap.size + 1 < W.heap.size
  c0 : W.cell? ⟨w.heap.size, 0, none⟩ = some (.int .i64 c.row)
  c1 : W.cell? ⟨w.heap.size, 1, none⟩ = some (.int .i64 c.turn)
  c2 : W.cell? ⟨w.heap.size, 2, none⟩ = some (.int .i64 c.under)
  o0 : W.cell? ⟨w.heap.size + 1, 0, none⟩ = some (.complex .f64 0 0)
  o1 : W.cell? ⟨w.heap.size + 1, 1, none⟩ = some (.complex .f64 0 0)
  o2 : W.cell? ⟨w.heap.size + 1, 2, none⟩ = some (.int .i64 0)
  fr : ∀ i, W.frozen? ⟨w.heap.size + 1, i, none⟩ = false
theorem VSt.start (w : World) (c : Ce) : VSt w c ((w.alloc (.cells #[.int .i64 c.row, .int .i64 c.turn, .int .i64 c.under] 145)).alloc (.cells #[.complex .f64 0 0, .complex .f64 0 0, .int .i64 0] 103)) := by
  have hb := below1 (w.alloc (.cells #[.int .i64 c.row, .int .i64 c.turn, .int .i64 c.under] 145)) (.cells #[.complex .f64 0 0, .complex .f64 0 0, .int .i64 0] 103)
  have hl : w.heap.size < (w.alloc (.cells #[.int .i64 c.row, .int .i64 c.turn, .int .i64 c.under] 145)).heap.size := by simp
  have hn := newB (w.alloc (.cells #[.int .i64 c.row, .int .i64 c.turn, .int .i64 c.under] 145)) (.cells #[.complex .f64 0 0, .complex .f64 0 0, .int .i64 0] 103) (k := w.heap.size + 1) (by simp)
  exact ⟨(below1 _ _).trans (hb.mono (by simp)), by simp, (hb.cell (p := ⟨w.heap.size, 0, none⟩) hl).trans (cell_at (newB _ _ rfl) rfl), (hb.cell (p := ⟨w.heap.size, 1, none⟩) hl).trans (cell_at (newB _ _ rfl) rfl), (hb.cell (p := ⟨w.heap.size, 2, none⟩) hl).trans (cell_at (newB _ _ rfl) rfl), cell_at hn rfl, cell_at hn rfl, cell_at hn rfl, fun i => free_at hn⟩
theorem VSt.step {w W W' : World} {c : Ce} (h : VSt w c W) (hb : Below W.heap.size W W') : VSt w c W' := by
  have hl := h.lt
  have h1 := fun o => hb.cell (p := ⟨w.heap.size, o, none⟩) (show w.heap.size < _ by omega)
  have h2 := fun o => hb.cell (p := ⟨w.heap.size + 1, o, none⟩) hl
  exact ⟨h.below.trans (hb.mono h.below.size), Nat.lt_of_lt_of_le hl hb.size, (h1 0).trans h.c0, (h1 1).trans h.c1, (h1 2).trans h.c2, (h2 0).trans h.o0, (h2 1).trans h.o1, (h2 2).trans h.o2, fun i => (hb.frozen (p := ⟨w.heap.size + 1, i, none⟩) hl).trans (h.fr i)⟩
set_option maxRecDepth 100000 in
set_option maxHeartbeats 1000000 in
theorem value_calls (c : Ce) (w : World) : Calls Tryz.prog 72 #[.agg #[.int .i64 c.row, .int .i64 c.turn, .int .i64 c.under]] w fun e w' => e = .returned (ampV c.r c.under) ∧ Below w.heap.size w w' := by
  have g := fun w => rturn_calls oneR c.turn oneR_pt w
  have h1 := bd65
  have h2 := bd103
  simp only [oneR, fl_one, fl_zero] at g
  have HK := Lib.hid (VSt.start w c)
  unfold ampV Ce.r oneR
  generalize turnR (c.turn : Int) ⟨1, 0, 0, 0⟩ = t at *
  generalize Fl t.a = x at *
  generalize Fl t.b = y at *
  generalize Fl t.c = z at *
  generalize Fl t.d = u at *
  obtain ⟨row, turn, under⟩ := c
  simp only at *
  obtain ⟨-, lt, c0, c1, c2, o0, o1, o2, fr⟩ := HK.out
  simp only at c0 c1 c2
  go_enter Tryz.func72, Tryz.ntmps72
  go_wp2_with fail
  go_at_call 44
  refine (g _).mono ?_
  rintro e w1 ⟨rfl, hb⟩
  replace HK := Lib.hid ((HK.out.step hb).step (below1 w1 (.cells #[.complex .f64 x y, .complex .f64 z u] 65)))
  have hn := newB w1 (.cells #[.complex .f64 x y, .complex .f64 z u] 65) rfl
  have n0 : (w1.alloc (.cells #[.complex .f64 x y, .complex .f64 z u] 65)).cell? ⟨w1.heap.size, 0, none⟩ = some (.complex .f64 x y) := cell_at hn rfl
  have n1 : (w1.alloc (.cells #[.complex .f64 x y, .complex .f64 z u] 65)).cell? ⟨w1.heap.size, 1, none⟩ = some (.complex .f64 z u) := cell_at hn rfl
  clear hb lt c0 c1 c2 o0 o1 o2 fr hn
  obtain ⟨-, lt, c0, c1, c2, o0, o1, o2, fr⟩ := HK.out
  simp only at c0 c1 c2
  go_wp2_with fail
  refine bodyPost_ret (v := .agg #[.complex .f64 x y, .complex .f64 z u, .int .i64 under]) (by simp [results, Tryz.results72, go_sem, *]) rfl ⟨rfl, ?_⟩
  exact ((HK.out.below.setCell (p := ⟨w.heap.size + 1, 0, none⟩) (Nat.le_succ _) _).setCell (p := ⟨w.heap.size + 1, 1, none⟩) (Nat.le_succ _) _).setCell (p := ⟨w.heap.size + 1, 2, none⟩) (Nat.le_succ _) _
end Go.Proofs.YtlobgpgdknjhlaaGreat.WH
