/- CxWhole: the law's walk. -/
import Derived.Test.YtknenddcighbpaaCxD
import Derived.LoopN
import Derived.Handy
import Derived.Laws.Cover2
import Derived.RangeFuncBox
import Derived.Deep.Cut
import Derived.Deep.QuietTactic
namespace Go.Proofs.Ytknenddcighbpaa.CX
open Go.RowKit Go.Proofs.Ytknenddcighbpaa.F
set_option linter.unusedVariables false
set_option linter.unusedSimpArgs false
attribute [local go_sem] run_real run_imag run_complex run_fneg
theorem ix0 (n0 n1 n2 n3 n4 n5 : Int) (W : World) : Sem.run Try.prog (Instr.index 22 (Value.agg #[.int .i32 n0, .int .i32 n1, .int .i32 n2, .int .i32 n3, .int .i32 n4, .int .i32 n5]) (Value.int .i64 0)) W = .ok (.int .i32 n0) W := by kernel_rfl
theorem ix1 (n0 n1 n2 n3 n4 n5 : Int) (W : World) : Sem.run Try.prog (Instr.index 22 (Value.agg #[.int .i32 n0, .int .i32 n1, .int .i32 n2, .int .i32 n3, .int .i32 n4, .int .i32 n5]) (Value.int .i64 1)) W = .ok (.int .i32 n1) W := by kernel_rfl
theorem ix2 (n0 n1 n2 n3 n4 n5 : Int) (W : World) : Sem.run Try.prog (Instr.index 22 (Value.agg #[.int .i32 n0, .int .i32 n1, .int .i32 n2, .int .i32 n3, .int .i32 n4, .int .i32 n5]) (Value.int .i64 2)) W = .ok (.int .i32 n2) W := by kernel_rfl
theorem ix3 (n0 n1 n2 n3 n4 n5 : Int) (W : World) : Sem.run Try.prog (Instr.index 22 (Value.agg #[.int .i32 n0, .int .i32 n1, .int .i32 n2, .int .i32 n3, .int .i32 n4, .int .i32 n5]) (Value.int .i64 3)) W = .ok (.int .i32 n3) W := by kernel_rfl
theorem ix4 (n0 n1 n2 n3 n4 n5 : Int) (W : World) : Sem.run Try.prog (Instr.index 22 (Value.agg #[.int .i32 n0, .int .i32 n1, .int .i32 n2, .int .i32 n3, .int .i32 n4, .int .i32 n5]) (Value.int .i64 4)) W = .ok (.int .i32 n4) W := by kernel_rfl
theorem ix5 (n0 n1 n2 n3 n4 n5 : Int) (W : World) : Sem.run Try.prog (Instr.index 22 (Value.agg #[.int .i32 n0, .int .i32 n1, .int .i32 n2, .int .i32 n3, .int .i32 n4, .int .i32 n5]) (Value.int .i64 5)) W = .ok (.int .i32 n5) W := by kernel_rfl
theorem st {P : Program} (a : Addr) (b : Nat) (w : World) (m : Mode) : (store a (.float .f64 b) m).run P w = stored P w a (.float .f64 b) m := run_store P w a _ m rfl
attribute [local go_sem] ix0 ix1 ix2 ix3 ix4 ix5 st
/-- A block of six doubles. -/
def B6 (W : World) (B : Nat) (v0 v1 v2 v3 v4 v5 : Nat) : Prop := W.heap[B]? = some (.cells #[.float .f64 v0, .float .f64 v1, .float .f64 v2, .float .f64 v3, .float .f64 v4, .float .f64 v5] 25 (0, 0))
theorem B6.cells {W : World} {B : Nat} {v0 v1 v2 v3 v4 v5 : Nat} (h : B6 W B v0 v1 v2 v3 v4 v5) : W.cell? ⟨B, 0, none⟩ = some (.float .f64 v0) ∧ W.cell? ⟨B, 1, none⟩ = some (.float .f64 v1) ∧ W.cell? ⟨B, 2, none⟩ = some (.float .f64 v2) ∧ W.cell? ⟨B, 3, none⟩ = some (.float .f64 v3) ∧ W.cell? ⟨B, 4, none⟩ = some (.float .f64 v4) ∧ W.cell? ⟨B, 5, none⟩ = some (.float .f64 v5) := by
  refine ⟨?_, ?_, ?_, ?_, ?_, ?_⟩ <;> simp [World.cell?, show W.heap[B]? = _ from h]
theorem B6.frozen {W : World} {B : Nat} {v0 v1 v2 v3 v4 v5 : Nat} (h : B6 W B v0 v1 v2 v3 v4 v5) (i : Nat) : W.frozen? ⟨B, i, none⟩ = false := by simp [World.frozen?, show W.heap[B]? = _ from h]
theorem B6.other {W : World} {B : Nat} {v0 v1 v2 v3 v4 v5 : Nat} (h : B6 W B v0 v1 v2 v3 v4 v5) (p : Addr) (u : Value) (hp : B ≠ p.block) : B6 (W.setCell p u) B v0 v1 v2 v3 v4 v5 := (Below.heap_setCell W p u B hp).trans h
theorem tm (n m : Int) (k : Nat) (h : m.natAbs = k) (hk : 0 < k := by decide) : (n.tmod m).natAbs ≤ k := by
  rw [Int.natAbs_tmod, h]
  exact Nat.le_of_lt (Nat.mod_lt _ hk)
theorem mulB {A B C D : Int} {M K : Nat} (hA : A.natAbs ≤ M) (hB : B.natAbs ≤ M) (hC : C.natAbs ≤ K) (hD : D.natAbs ≤ K) : (A * C - B * D).natAbs ≤ 2 * (M * K) ∧ (A * D + B * C).natAbs ≤ 2 * (M * K) := by
  have b1 := le_pow (x := 0) hA hC
  have b2 := le_pow (x := 0) hB hD
  have b3 := le_pow (x := 0) hA hD
  have b4 := le_pow (x := 0) hB hC
  omega
theorem asc1 (a b c d e f : Int) : (a * c - b * d) * e - (a * d + b * c) * f = a * (c * e - d * f) - b * (c * f + d * e) := by
  simp only [Int.sub_mul, Int.mul_sub, Int.add_mul, Int.mul_add, Int.mul_assoc]
  omega
theorem asc2 (a b c d e f : Int) : (a * c - b * d) * f + (a * d + b * c) * e = a * (c * f + d * e) + b * (c * e - d * f) := by
  simp only [Int.sub_mul, Int.mul_sub, Int.add_mul, Int.mul_add, Int.mul_assoc]
  omega
theorem dis1 (a b c d e f : Int) : a * (c + e) - b * (d + f) = (a * c - b * d) + (a * e - b * f) := by
  simp only [Int.mul_add]
  omega
theorem dis2 (a b c d e f : Int) : a * (d + f) + b * (c + e) = (a * d + b * c) + (a * f + b * e) := by
  simp only [Int.mul_add]
  omega
theorem two_new (W : World) (v0 v1 : Value) : ((W.alloc (.cells #[v0, v1] 26)).alloc (.cells #[v0, v1] 26)).cell? ⟨W.heap.size, 0, none⟩ = some v0 ∧ ((W.alloc (.cells #[v0, v1] 26)).alloc (.cells #[v0, v1] 26)).cell? ⟨W.heap.size, 1, none⟩ = some v1 ∧
    ((W.alloc (.cells #[v0, v1] 26)).alloc (.cells #[v0, v1] 26)).cell? ⟨W.heap.size + 1, 0, none⟩ = some v0 ∧ ((W.alloc (.cells #[v0, v1] 26)).alloc (.cells #[v0, v1] 26)).cell? ⟨W.heap.size + 1, 1, none⟩ = some v1 := by
  have h1 : ((W.alloc (.cells #[v0, v1] 26)).alloc (.cells #[v0, v1] 26)).heap[W.heap.size]? = some (.cells #[v0, v1] 26) := (Below.heap_alloc _ _ _ (by simp)).trans (World.alloc_heap_new W _)
  have h2 : ((W.alloc (.cells #[v0, v1] 26)).alloc (.cells #[v0, v1] 26)).heap[W.heap.size + 1]? = some (.cells #[v0, v1] 26) := by
    have := World.alloc_heap_new (W.alloc (.cells #[v0, v1] 26)) (.cells #[v0, v1] 26)
    rw [World.size_alloc] at this
    exact this
  unfold World.cell?
  refine ⟨?_, ?_, ?_, ?_⟩
  · simp only [h1]; rfl
  · simp only [h1]; rfl
  · simp only [h2]; rfl
  · simp only [h2]; rfl
theorem B6.set0 {W : World} {B : Nat} {v0 v1 v2 v3 v4 v5 : Nat} (x : Nat) (h : B6 W B v0 v1 v2 v3 v4 v5) : B6 (W.setCell ⟨B, 0, none⟩ (.float .f64 x)) B x v1 v2 v3 v4 v5 := by
  have hlt : B < W.heap.size := (Array.getElem?_eq_some_iff.1 h).1
  unfold B6
  simp [World.setCell, Array.getElem?_modify, show W.heap[B]? = _ from h]
theorem B6.set1 {W : World} {B : Nat} {v0 v1 v2 v3 v4 v5 : Nat} (x : Nat) (h : B6 W B v0 v1 v2 v3 v4 v5) : B6 (W.setCell ⟨B, 1, none⟩ (.float .f64 x)) B v0 x v2 v3 v4 v5 := by
  have hlt : B < W.heap.size := (Array.getElem?_eq_some_iff.1 h).1
  unfold B6
  simp [World.setCell, Array.getElem?_modify, show W.heap[B]? = _ from h]
theorem B6.set2 {W : World} {B : Nat} {v0 v1 v2 v3 v4 v5 : Nat} (x : Nat) (h : B6 W B v0 v1 v2 v3 v4 v5) : B6 (W.setCell ⟨B, 2, none⟩ (.float .f64 x)) B v0 v1 x v3 v4 v5 := by
  have hlt : B < W.heap.size := (Array.getElem?_eq_some_iff.1 h).1
  unfold B6
  simp [World.setCell, Array.getElem?_modify, show W.heap[B]? = _ from h]
theorem B6.set3 {W : World} {B : Nat} {v0 v1 v2 v3 v4 v5 : Nat} (x : Nat) (h : B6 W B v0 v1 v2 v3 v4 v5) : B6 (W.setCell ⟨B, 3, none⟩ (.float .f64 x)) B v0 v1 v2 x v4 v5 := by
  have hlt : B < W.heap.size := (Array.getElem?_eq_some_iff.1 h).1
  unfold B6
  simp [World.setCell, Array.getElem?_modify, show W.heap[B]? = _ from h]
theorem B6.set4 {W : World} {B : Nat} {v0 v1 v2 v3 v4 v5 : Nat} (x : Nat) (h : B6 W B v0 v1 v2 v3 v4 v5) : B6 (W.setCell ⟨B, 4, none⟩ (.float .f64 x)) B v0 v1 v2 v3 x v5 := by
  have hlt : B < W.heap.size := (Array.getElem?_eq_some_iff.1 h).1
  unfold B6
  simp [World.setCell, Array.getElem?_modify, show W.heap[B]? = _ from h]
theorem B6.set5 {W : World} {B : Nat} {v0 v1 v2 v3 v4 v5 : Nat} (x : Nat) (h : B6 W B v0 v1 v2 v3 v4 v5) : B6 (W.setCell ⟨B, 5, none⟩ (.float .f64 x)) B v0 v1 v2 v3 v4 x := by
  have hlt : B < W.heap.size := (Array.getElem?_eq_some_iff.1 h).1
  unfold B6
  simp [World.setCell, Array.getElem?_modify, show W.heap[B]? = _ from h]
set_option maxRecDepth 100000 in
set_option maxHeartbeats 2000000 in
theorem walk (n0 n1 n2 n3 n4 n5 : Int) (w : World) : Calls Try.prog 3 #[.agg #[.int .i32 n0, .int .i32 n1, .int .i32 n2, .int .i32 n3, .int .i32 n4, .int .i32 n5]] w fun e w' => e = .returned (.bool true) ∧ Below w.heap.size w w' := by
  have ha := awake_calls
  go_enter Try.func3, Try.ntmps3
  go_wp2_with (go_at_call 4; (with_reducible refine (awake_calls _).mono ?_); rintro e w' ⟨rfl, rfl⟩)
  obtain ⟨W, hW⟩ : ∃ W, (((w.alloc (Obj.cells #[Value.int IntKind.i32 n0, Value.int IntKind.i32 n1, Value.int IntKind.i32 n2, Value.int IntKind.i32 n3, Value.int IntKind.i32 n4, Value.int IntKind.i32 n5] 22)).alloc (Obj.cells #[Value.float FloatKind.f64 0, Value.float FloatKind.f64 0, Value.float FloatKind.f64 0, Value.float FloatKind.f64 0, Value.float FloatKind.f64 0, Value.float FloatKind.f64 0] 25)).alloc (Obj.cells #[Value.float FloatKind.f64 0, Value.float FloatKind.f64 0, Value.float FloatKind.f64 0, Value.float FloatKind.f64 0, Value.float FloatKind.f64 0, Value.float FloatKind.f64 0] 25)) = W := ⟨_, rfl⟩
  have hf : B6 W (w.heap.size + 1) 0 0 0 0 0 0 := by
    rw [← hW]
    have := World.alloc_heap_new (w.alloc (Obj.cells #[Value.int IntKind.i32 n0, Value.int IntKind.i32 n1, Value.int IntKind.i32 n2, Value.int IntKind.i32 n3, Value.int IntKind.i32 n4, Value.int IntKind.i32 n5] 22)) (Obj.cells #[Value.float FloatKind.f64 0, Value.float FloatKind.f64 0, Value.float FloatKind.f64 0, Value.float FloatKind.f64 0, Value.float FloatKind.f64 0, Value.float FloatKind.f64 0] 25)
    rw [World.size_alloc] at this
    exact (Below.heap_alloc _ _ _ (by simp)).trans this
  have hg : B6 W (w.heap.size + 1 + 1) 0 0 0 0 0 0 := by
    rw [← hW]
    have := World.alloc_heap_new ((w.alloc (Obj.cells #[Value.int IntKind.i32 n0, Value.int IntKind.i32 n1, Value.int IntKind.i32 n2, Value.int IntKind.i32 n3, Value.int IntKind.i32 n4, Value.int IntKind.i32 n5] 22)).alloc (Obj.cells #[Value.float FloatKind.f64 0, Value.float FloatKind.f64 0, Value.float FloatKind.f64 0, Value.float FloatKind.f64 0, Value.float FloatKind.f64 0, Value.float FloatKind.f64 0] 25)) (Obj.cells #[Value.float FloatKind.f64 0, Value.float FloatKind.f64 0, Value.float FloatKind.f64 0, Value.float FloatKind.f64 0, Value.float FloatKind.f64 0, Value.float FloatKind.f64 0] 25)
    rw [World.size_alloc, World.size_alloc] at this
    exact this
  have hB : Below w.heap.size w W := by rw [← hW]; exact (((Below.refl _ w).alloc (Nat.le_refl _) _).alloc (by simp) _).alloc (by simp; omega) _
  rw [hW]
  clear hW ha
  obtain ⟨x0, hx0⟩ : ∃ x, floatOfInt FloatKind.f64 (n0.tmod 33554432) = x := ⟨_, rfl⟩
  obtain ⟨y0, hy0⟩ : ∃ x, floatOfInt FloatKind.f64 (n0.tmod 65536) = x := ⟨_, rfl⟩
  obtain ⟨x1, hx1⟩ : ∃ x, floatOfInt FloatKind.f64 (n1.tmod 33554432) = x := ⟨_, rfl⟩
  obtain ⟨y1, hy1⟩ : ∃ x, floatOfInt FloatKind.f64 (n1.tmod 65536) = x := ⟨_, rfl⟩
  obtain ⟨x2, hx2⟩ : ∃ x, floatOfInt FloatKind.f64 (n2.tmod 33554432) = x := ⟨_, rfl⟩
  obtain ⟨y2, hy2⟩ : ∃ x, floatOfInt FloatKind.f64 (n2.tmod 65536) = x := ⟨_, rfl⟩
  obtain ⟨x3, hx3⟩ : ∃ x, floatOfInt FloatKind.f64 (n3.tmod 33554432) = x := ⟨_, rfl⟩
  obtain ⟨y3, hy3⟩ : ∃ x, floatOfInt FloatKind.f64 (n3.tmod 65536) = x := ⟨_, rfl⟩
  obtain ⟨x4, hx4⟩ : ∃ x, floatOfInt FloatKind.f64 (n4.tmod 33554432) = x := ⟨_, rfl⟩
  obtain ⟨y4, hy4⟩ : ∃ x, floatOfInt FloatKind.f64 (n4.tmod 65536) = x := ⟨_, rfl⟩
  obtain ⟨x5, hx5⟩ : ∃ x, floatOfInt FloatKind.f64 (n5.tmod 33554432) = x := ⟨_, rfl⟩
  obtain ⟨y5, hy5⟩ : ∃ x, floatOfInt FloatKind.f64 (n5.tmod 65536) = x := ⟨_, rfl⟩
  refine wp_loop_rounds 7 ?_
  -- round 0
  obtain ⟨c0, c1, c2, c3, c4, c5⟩ := hf.cells
  obtain ⟨d0, d1, d2, d3, d4, d5⟩ := hg.cells
  have e0 := hf.frozen 0
  have k0 := hg.frozen 0
  rw [rounds_succ]
  go_wp2
  clear c0 c1 c2 c3 c4 c5 d0 d1 d2 d3 d4 d5 e0 k0
  obtain ⟨V0, hV⟩ : ∃ V, (W.setCell ⟨w.heap.size + 1, 0, none⟩ (.float .f64 x0)).setCell ⟨w.heap.size + 1 + 1, 0, none⟩ (.float .f64 y0) = V := ⟨_, rfl⟩
  replace hf : B6 V0 (w.heap.size + 1) x0 0 0 0 0 0 := by rw [← hV]; exact (hf.set0 x0).other _ _ (by simp)
  replace hg : B6 V0 (w.heap.size + 1 + 1) y0 0 0 0 0 0 := by rw [← hV]; exact (hg.other _ _ (by simp)).set0 y0
  replace hB : Below w.heap.size w V0 := by rw [← hV]; exact (hB.setCell (p := ⟨w.heap.size + 1, 0, none⟩) (by simp only; omega) _).setCell (p := ⟨w.heap.size + 1 + 1, 0, none⟩) (by simp only; omega) _
  rw [hV]
  clear hV
  clear W
  obtain ⟨W, hV⟩ : ∃ W, V0 = W := ⟨_, rfl⟩
  rw [hV] at hf hg hB ⊢
  clear hV V0
  -- round 1
  obtain ⟨c0, c1, c2, c3, c4, c5⟩ := hf.cells
  obtain ⟨d0, d1, d2, d3, d4, d5⟩ := hg.cells
  have e0 := hf.frozen 1
  have k0 := hg.frozen 1
  rw [rounds_succ]
  go_wp2
  clear c0 c1 c2 c3 c4 c5 d0 d1 d2 d3 d4 d5 e0 k0
  obtain ⟨V1, hV⟩ : ∃ V, (W.setCell ⟨w.heap.size + 1, 1, none⟩ (.float .f64 x1)).setCell ⟨w.heap.size + 1 + 1, 1, none⟩ (.float .f64 y1) = V := ⟨_, rfl⟩
  replace hf : B6 V1 (w.heap.size + 1) x0 x1 0 0 0 0 := by rw [← hV]; exact (hf.set1 x1).other _ _ (by simp)
  replace hg : B6 V1 (w.heap.size + 1 + 1) y0 y1 0 0 0 0 := by rw [← hV]; exact (hg.other _ _ (by simp)).set1 y1
  replace hB : Below w.heap.size w V1 := by rw [← hV]; exact (hB.setCell (p := ⟨w.heap.size + 1, 1, none⟩) (by simp only; omega) _).setCell (p := ⟨w.heap.size + 1 + 1, 1, none⟩) (by simp only; omega) _
  rw [hV]
  clear hV
  clear W
  obtain ⟨W, hV⟩ : ∃ W, V1 = W := ⟨_, rfl⟩
  rw [hV] at hf hg hB ⊢
  clear hV V1
  -- round 2
  obtain ⟨c0, c1, c2, c3, c4, c5⟩ := hf.cells
  obtain ⟨d0, d1, d2, d3, d4, d5⟩ := hg.cells
  have e0 := hf.frozen 2
  have k0 := hg.frozen 2
  rw [rounds_succ]
  go_wp2
  clear c0 c1 c2 c3 c4 c5 d0 d1 d2 d3 d4 d5 e0 k0
  obtain ⟨V2, hV⟩ : ∃ V, (W.setCell ⟨w.heap.size + 1, 2, none⟩ (.float .f64 x2)).setCell ⟨w.heap.size + 1 + 1, 2, none⟩ (.float .f64 y2) = V := ⟨_, rfl⟩
  replace hf : B6 V2 (w.heap.size + 1) x0 x1 x2 0 0 0 := by rw [← hV]; exact (hf.set2 x2).other _ _ (by simp)
  replace hg : B6 V2 (w.heap.size + 1 + 1) y0 y1 y2 0 0 0 := by rw [← hV]; exact (hg.other _ _ (by simp)).set2 y2
  replace hB : Below w.heap.size w V2 := by rw [← hV]; exact (hB.setCell (p := ⟨w.heap.size + 1, 2, none⟩) (by simp only; omega) _).setCell (p := ⟨w.heap.size + 1 + 1, 2, none⟩) (by simp only; omega) _
  rw [hV]
  clear hV
  clear W
  obtain ⟨W, hV⟩ : ∃ W, V2 = W := ⟨_, rfl⟩
  rw [hV] at hf hg hB ⊢
  clear hV V2
  -- round 3
  obtain ⟨c0, c1, c2, c3, c4, c5⟩ := hf.cells
  obtain ⟨d0, d1, d2, d3, d4, d5⟩ := hg.cells
  have e0 := hf.frozen 3
  have k0 := hg.frozen 3
  rw [rounds_succ]
  go_wp2
  clear c0 c1 c2 c3 c4 c5 d0 d1 d2 d3 d4 d5 e0 k0
  obtain ⟨V3, hV⟩ : ∃ V, (W.setCell ⟨w.heap.size + 1, 3, none⟩ (.float .f64 x3)).setCell ⟨w.heap.size + 1 + 1, 3, none⟩ (.float .f64 y3) = V := ⟨_, rfl⟩
  replace hf : B6 V3 (w.heap.size + 1) x0 x1 x2 x3 0 0 := by rw [← hV]; exact (hf.set3 x3).other _ _ (by simp)
  replace hg : B6 V3 (w.heap.size + 1 + 1) y0 y1 y2 y3 0 0 := by rw [← hV]; exact (hg.other _ _ (by simp)).set3 y3
  replace hB : Below w.heap.size w V3 := by rw [← hV]; exact (hB.setCell (p := ⟨w.heap.size + 1, 3, none⟩) (by simp only; omega) _).setCell (p := ⟨w.heap.size + 1 + 1, 3, none⟩) (by simp only; omega) _
  rw [hV]
  clear hV
  clear W
  obtain ⟨W, hV⟩ : ∃ W, V3 = W := ⟨_, rfl⟩
  rw [hV] at hf hg hB ⊢
  clear hV V3
  -- round 4
  obtain ⟨c0, c1, c2, c3, c4, c5⟩ := hf.cells
  obtain ⟨d0, d1, d2, d3, d4, d5⟩ := hg.cells
  have e0 := hf.frozen 4
  have k0 := hg.frozen 4
  rw [rounds_succ]
  go_wp2
  clear c0 c1 c2 c3 c4 c5 d0 d1 d2 d3 d4 d5 e0 k0
  obtain ⟨V4, hV⟩ : ∃ V, (W.setCell ⟨w.heap.size + 1, 4, none⟩ (.float .f64 x4)).setCell ⟨w.heap.size + 1 + 1, 4, none⟩ (.float .f64 y4) = V := ⟨_, rfl⟩
  replace hf : B6 V4 (w.heap.size + 1) x0 x1 x2 x3 x4 0 := by rw [← hV]; exact (hf.set4 x4).other _ _ (by simp)
  replace hg : B6 V4 (w.heap.size + 1 + 1) y0 y1 y2 y3 y4 0 := by rw [← hV]; exact (hg.other _ _ (by simp)).set4 y4
  replace hB : Below w.heap.size w V4 := by rw [← hV]; exact (hB.setCell (p := ⟨w.heap.size + 1, 4, none⟩) (by simp only; omega) _).setCell (p := ⟨w.heap.size + 1 + 1, 4, none⟩) (by simp only; omega) _
  rw [hV]
  clear hV
  clear W
  obtain ⟨W, hV⟩ : ∃ W, V4 = W := ⟨_, rfl⟩
  rw [hV] at hf hg hB ⊢
  clear hV V4
  -- round 5
  obtain ⟨c0, c1, c2, c3, c4, c5⟩ := hf.cells
  obtain ⟨d0, d1, d2, d3, d4, d5⟩ := hg.cells
  have e0 := hf.frozen 5
  have k0 := hg.frozen 5
  rw [rounds_succ]
  go_wp2
  clear c0 c1 c2 c3 c4 c5 d0 d1 d2 d3 d4 d5 e0 k0
  obtain ⟨V5, hV⟩ : ∃ V, (W.setCell ⟨w.heap.size + 1, 5, none⟩ (.float .f64 x5)).setCell ⟨w.heap.size + 1 + 1, 5, none⟩ (.float .f64 y5) = V := ⟨_, rfl⟩
  replace hf : B6 V5 (w.heap.size + 1) x0 x1 x2 x3 x4 x5 := by rw [← hV]; exact (hf.set5 x5).other _ _ (by simp)
  replace hg : B6 V5 (w.heap.size + 1 + 1) y0 y1 y2 y3 y4 y5 := by rw [← hV]; exact (hg.other _ _ (by simp)).set5 y5
  replace hB : Below w.heap.size w V5 := by rw [← hV]; exact (hB.setCell (p := ⟨w.heap.size + 1, 5, none⟩) (by simp only; omega) _).setCell (p := ⟨w.heap.size + 1 + 1, 5, none⟩) (by simp only; omega) _
  rw [hV]
  clear hV
  clear W
  obtain ⟨W, hV⟩ : ∃ W, V5 = W := ⟨_, rfl⟩
  rw [hV] at hf hg hB ⊢
  clear hV V5
  have rx : ∀ n : Int, Rep (floatOfInt FloatKind.f64 (n.tmod 33554432)) (n.tmod 33554432) := fun n => rep_int _ (Nat.lt_of_le_of_lt (tm n 33554432 33554432 rfl) (by decide))
  have ry : ∀ n : Int, Rep (floatOfInt FloatKind.f64 (n.tmod 65536)) (n.tmod 65536) := fun n => rep_int _ (Nat.lt_of_le_of_lt (tm n 65536 65536 rfl) (by decide))
  have bx : ∀ n : Int, (n.tmod 33554432).natAbs ≤ 33554432 := fun n => tm n 33554432 33554432 rfl
  have by_ : ∀ n : Int, (n.tmod 65536).natAbs ≤ 65536 := fun n => tm n 65536 65536 rfl
  have hX : CR x0 x1 (n0.tmod 33554432) (n1.tmod 33554432) := ⟨hx0 ▸ rx n0, hx1 ▸ rx n1⟩
  have hY : CR x2 x3 (n2.tmod 33554432) (n3.tmod 33554432) := ⟨hx2 ▸ rx n2, hx3 ▸ rx n3⟩
  have hA : CR y0 y1 (n0.tmod 65536) (n1.tmod 65536) := ⟨hy0 ▸ ry n0, hy1 ▸ ry n1⟩
  have hBb : CR y2 y3 (n2.tmod 65536) (n3.tmod 65536) := ⟨hy2 ▸ ry n2, hy3 ▸ ry n3⟩
  have hC : CR y4 y5 (n4.tmod 65536) (n5.tmod 65536) := ⟨hy4 ▸ ry n4, hy5 ▸ ry n5⟩
  obtain ⟨u0, v0, r0, f0⟩ := Mul_calls 33554432 33554432 hX hY (bx _) (bx _) (bx _) (bx _) (by decide)
  obtain ⟨u1, v1, r1, f1⟩ := mul_run (P := Try.prog) 33554432 33554432 hX hY (bx _) (bx _) (bx _) (bx _) (by decide) 26
  obtain ⟨u2, v2, r2, f2, g2⟩ := Add_all 33554432 33554432 hX hY (bx _) (bx _) (bx _) (bx _) (by decide)
  obtain ⟨u3, v3, r3, f3, g3⟩ := Sub_all 33554432 33554432 hX hY (bx _) (bx _) (bx _) (bx _) (by decide)
  have q0 := Equal_all r0 r1 rfl rfl
  have q2 := Equal_all r2 r2 rfl rfl
  have q3 := Equal_all r3 r3 rfl rfl
  rw [rounds_succ]
  obtain ⟨c0, c1, c2, c3, c4, c5⟩ := hf.cells
  obtain ⟨d0, d1, d2, d3, d4, d5⟩ := hg.cells
  go_upto_region 10 with fail
  repeat (go_quiet (fail); try go_upto_region 10 with fail)
  clear c0 c1 c2 c3 c4 c5 d0 d1 d2 d3 d4 d5
  go_wp2_with (first | (go_at_call 6; (with_reducible refine (f0 _).mono ?_); rintro e w' ⟨rfl, rfl⟩) | (go_at_call 5; (with_reducible refine (q0 _).mono ?_); rintro e w' ⟨rfl, rfl⟩) | (go_at_call 7; (with_reducible refine (f2 _).mono ?_); rintro e w' ⟨rfl, rfl⟩) | (go_at_call 5; (with_reducible refine (q2 _).mono ?_); rintro e w' ⟨rfl, rfl⟩) | (go_at_call 8; (with_reducible refine (f3 _).mono ?_); rintro e w' ⟨rfl, rfl⟩) | (go_at_call 5; (with_reducible refine (q3 _).mono ?_); rintro e w' ⟨rfl, rfl⟩))
  obtain ⟨W2, hW2⟩ : ∃ W2, W.drewN nq = W2 := ⟨_, rfl⟩
  have hg2 : B6 W2 (w.heap.size + 1 + 1) y0 y1 y2 y3 y4 y5 := by rw [← hW2]; exact hg
  have hB2 : Below w.heap.size w W2 := by rw [← hW2]; exact ⟨hB.os, hB.tape, hB.output, hB.size, hB.block⟩
  rw [hW2]
  clear hW2 hg hf hB f0 r0 f1 r1 f2 g2 r2 f3 g3 r3 q0 q2 q3 hX hY
  obtain ⟨u1, v1, r1, f1⟩ := Mul_calls 65536 65536 hA hBb (by_ _) (by_ _) (by_ _) (by_ _) (by decide)
  have b1 := mulB (by_ n0) (by_ n1) (by_ n2) (by_ n3)
  obtain ⟨u2, v2, r2, f2⟩ := Mul_calls (2 * (65536 * 65536)) 65536 r1 hC b1.1 b1.2 (by_ _) (by_ _) (by decide)
  obtain ⟨u3, v3, r3, f3⟩ := Mul_calls 65536 65536 hBb hC (by_ _) (by_ _) (by_ _) (by_ _) (by decide)
  have b3 := mulB (by_ n2) (by_ n3) (by_ n4) (by_ n5)
  obtain ⟨u4, v4, r4, f4⟩ := Mul_calls 65536 (2 * (65536 * 65536)) hA r3 (by_ _) (by_ _) b3.1 b3.2 (by decide)
  have q1 := Equal_all r2 r4 (asc1 _ _ _ _ _ _) (asc2 _ _ _ _ _ _)
  obtain ⟨u5, v5, r5, f5, g5⟩ := Add_all 65536 65536 hBb hC (by_ _) (by_ _) (by_ _) (by_ _) (by decide)
  have z1 : (n2.tmod 65536 + n4.tmod 65536).natAbs ≤ 131072 := by have := by_ n2; have := by_ n4; omega
  have z2 : (n3.tmod 65536 + n5.tmod 65536).natAbs ≤ 131072 := by have := by_ n3; have := by_ n5; omega
  obtain ⟨u6, v6, r6, f6⟩ := Mul_calls 65536 131072 hA r5 (by_ _) (by_ _) z1 z2 (by decide)
  obtain ⟨u7, v7, r7, f7⟩ := Mul_calls 65536 65536 hA hC (by_ _) (by_ _) (by_ _) (by_ _) (by decide)
  have b7 := mulB (by_ n0) (by_ n1) (by_ n4) (by_ n5)
  obtain ⟨u8, v8, r8, f8, g8⟩ := Add_all (2 * (65536 * 65536)) (2 * (65536 * 65536)) r1 r7 b1.1 b1.2 b7.1 b7.2 (by decide)
  have q2 := Equal_all r6 r8 (dis1 _ _ _ _ _ _) (dis2 _ _ _ _ _ _)
  obtain ⟨d0, d1, d2, d3, d4, d5⟩ := hg2.cells
  go_upto_region 13 with fail
  repeat (go_quiet (fail); try go_upto_region 13 with fail)
  clear d0 d1 d2 d3 d4 d5
  go_upto_region 15 with (first | (go_at_call 6; (with_reducible refine (f1 _).mono ?_); rintro e w' ⟨rfl, rfl⟩) | (go_at_call 6; (with_reducible refine (f2 _).mono ?_); rintro e w' ⟨rfl, rfl⟩) | (go_at_call 6; (with_reducible refine (f3 _).mono ?_); rintro e w' ⟨rfl, rfl⟩) | (go_at_call 6; (with_reducible refine (f4 _).mono ?_); rintro e w' ⟨rfl, rfl⟩) | (go_at_call 6; (with_reducible refine (f6 _).mono ?_); rintro e w' ⟨rfl, rfl⟩) | (go_at_call 6; (with_reducible refine (f7 _).mono ?_); rintro e w' ⟨rfl, rfl⟩) | (go_at_call 5; (with_reducible refine (q1 _).mono ?_); rintro e w' ⟨rfl, rfl⟩) | (go_at_call 5; (with_reducible refine (q2 _).mono ?_); rintro e w' ⟨rfl, rfl⟩) | (go_at_call 7; (with_reducible refine (f5 _).mono ?_); rintro e w' ⟨rfl, rfl⟩) | (go_at_call 7; (with_reducible refine (f8 _).mono ?_); rintro e w' ⟨rfl, rfl⟩))
  obtain ⟨W3, hW3⟩ : ∃ W3, W2.drewN nq = W3 := ⟨_, rfl⟩
  have hB3 : Below w.heap.size w W3 := by rw [← hW3]; exact ⟨hB2.os, hB2.tape, hB2.output, hB2.size, hB2.block⟩
  rw [hW3]
  clear hW3 hg2 hB2 f1 f2 r2 f3 r3 f4 r4 f5 g5 r5 f6 r6 f7 r7 f8 g8 r8 q1 q2 b1 b3 b7 z1 z2 r1
  obtain ⟨un, vn, rn, fn⟩ := sqr hA (by_ n0) (by_ n1)
  obtain ⟨rA, eA, fA⟩ := Norm_calls 65536 hA (by_ n0) (by_ n1) (by decide)
  obtain ⟨rB, eB, fB⟩ := Norm_calls 65536 hBb (by_ n2) (by_ n3) (by decide)
  have nA := normB (by_ n0) (by_ n1)
  have nB := normB (by_ n2) (by_ n3)
  obtain ⟨rS, aS, eS⟩ := rep_sum eA eB (by omega)
  have hS := fun w => run_float_arith (P := Try.prog) (w := w) .add 24 .f64 rA rB rS (fb_add aS)
  obtain ⟨ui, vi, ri, fi⟩ := Mul_calls 65536 1 hA (⟨rep_0, rep_1⟩ : CR 0 4607182418800017408 0 1) (by_ n0) (by_ n1) (by decide) (by decide) (by decide)
  have ft : ∀ w, Calls Try.prog 11 #[.complex .f64 y0 y1, .int .i64 1] w fun e w' => e = .returned (.complex .f64 (y1 ^^^ 9223372036854775808) y0) ∧ w' = w := fun w => Turn1_calls y0 y1 w
  have rt : CR (y1 ^^^ 9223372036854775808) y0 (-(n1.tmod 65536)) (n0.tmod 65536) := ⟨rep_neg hA.2, hA.1⟩
  obtain ⟨uD, vD, rD, fD⟩ := Dot_calls hA hBb (by_ n0) (by_ n1) (by_ n2) (by_ n3)
  have p1 := Equal_all rn (⟨eA, rep_0⟩ : CR rA 0 _ 0) rfl rfl
  have p2 := Equal_all ri rt (by omega) (by omega)
  have p3 := Equal_all rD (⟨eS, rep_0⟩ : CR rS 0 _ 0) rfl rfl
  clear nA nB eA eB aS eS rn ri rt rD hA hBb hC rx ry bx by_
  go_upto_region 16 with (first | (go_at_call 9; (with_reducible refine (Conj_lit y0 y1 _).mono ?_); rintro e w' ⟨rfl, rfl⟩) | (go_at_call 6; (with_reducible refine (fn _).mono ?_); rintro e w' ⟨rfl, rfl⟩))
  go_wp2_with (first | (go_at_call 10; (with_reducible refine (fA _).mono ?_); rintro e w' ⟨rfl, rfl⟩) | (go_at_call 10; (with_reducible refine (fB _).mono ?_); rintro e w' ⟨rfl, rfl⟩) | (go_at_call 5; (with_reducible refine (p1 _).mono ?_); rintro e w' ⟨rfl, rfl⟩) | (go_at_call 5; (with_reducible refine (p2 _).mono ?_); rintro e w' ⟨rfl, rfl⟩) | (go_at_call 5; (with_reducible refine (p3 _).mono ?_); rintro e w' ⟨rfl, rfl⟩) | (go_at_call 6; (with_reducible refine (fi _).mono ?_); rintro e w' ⟨rfl, rfl⟩) | (go_at_call 11; (with_reducible refine (ft _).mono ?_); rintro e w' ⟨rfl, rfl⟩))
  refine (fD _ _ _ (two_new _ _ _).1 (two_new _ _ _).2.1 (two_new _ _ _).2.2.1 (two_new _ _ _).2.2.2).mono ?_
  rintro e w9 ⟨rfl, ⟨nd, rfl⟩⟩
  go_wp2_with (first | (go_at_call 10; (with_reducible refine (fA _).mono ?_); rintro e w' ⟨rfl, rfl⟩) | (go_at_call 10; (with_reducible refine (fB _).mono ?_); rintro e w' ⟨rfl, rfl⟩) | (go_at_call 5; (with_reducible refine (p1 _).mono ?_); rintro e w' ⟨rfl, rfl⟩) | (go_at_call 5; (with_reducible refine (p2 _).mono ?_); rintro e w' ⟨rfl, rfl⟩) | (go_at_call 5; (with_reducible refine (p3 _).mono ?_); rintro e w' ⟨rfl, rfl⟩) | (go_at_call 6; (with_reducible refine (fi _).mono ?_); rintro e w' ⟨rfl, rfl⟩) | (go_at_call 11; (with_reducible refine (ft _).mono ?_); rintro e w' ⟨rfl, rfl⟩))
  go_ret
  have hs3 := hB3.size
  have hB4 := (hB3.alloc hs3 (.cells #[.complex .f64 y0 y1, .complex .f64 y2 y3] 26)).alloc (by simp only [World.size_alloc]; omega) (.cells #[.complex .f64 y0 y1, .complex .f64 y2 y3] 26)
  exact ⟨rfl, ⟨hB4.os, hB4.tape, hB4.output, hB4.size, hB4.block⟩⟩
end Go.Proofs.Ytknenddcighbpaa.CX
