/- The laws' first trial, lit: it answers true; walked. -/
import Derived.Test.YtlobgpgdknjhlaaGreatWhAJ
namespace Go.Proofs.YtlobgpgdknjhlaaGreat.WH
open Go Go.RowKit Go.Maps Go.Proofs.YtlobgpgdknjhlaaGreat.F
set_option linter.unusedVariables false
set_option linter.unusedSimpArgs false
attribute [local go_sem] run_store_complex run_store_func
theorem lit_state : formS (0 + e_h.ha) (applyR e_h (basisR 1 0) [0]) = (1, [oneR, oneR]) := by decide +kernel
set_option maxRecDepth 100000 in
set_option maxHeartbeats 2000000 in
theorem hzero_calls (a : Option Addr) (c : Nat) (aq : Option Addr) (cq : Nat) (w : World) (hr : Rings w a c (basisR 1 0)) (hi : Ints w aq cq [0]) :
    Calls Tryz.prog 22 #[.agg #[.int .i64 1, .int .i64 0, .slice a 2 c], .string ⟨#[104]⟩, .slice aq 1 cq] w fun x w' =>
      ∃ B, x = .returned (.tuple #[.agg #[.int .i64 1, .int .i64 1, .slice (some ⟨B, 0, none⟩) 2 2], .int .i64 0]) ∧ OwnR w' B [oneR, oneR] ∧ w.heap.size ≤ B ∧ Below w.heap.size w w' := by
  have h := apply_calls e_h (by simp [gates]) 1 0 1 a c (basisR 1 0) aq cq [0] w ((basis_good 1 0 (by decide)).formd (by decide) (by decide)) hr hi rfl (by simp) (by simp) (fun r hr => by simpa using (basis_good 1 0 (by decide)).bd r hr) (by decide) (by decide)
  rw [lit_state] at h
  exact h
set_option maxRecDepth 100000 in
set_option maxHeartbeats 2000000 in
theorem lit_calls (w : World) : Calls Tryz.prog 6 #[] w fun e w' => e = .returned (.bool true) ∧ Below w.heap.size w w' := by
  have g21 := zero_calls 1 (by decide)
  have HNEQ : Hid (∀ W, (binOp .neq 65 ONE ONE).run Tryz.prog W = .ok (.bool false) W) := Lib.hid fun W => by
    have h := neqR oneR oneR_pt W
    simp only [oneR, fl_one, fl_zero] at h
    exact h
  have h1 := bd65
  go_enter Tryz.func6, Tryz.ntmps6
  go_wp2_with fail
  go_at_call 21
  refine (g21 w).mono ?_
  rintro e w1 ⟨B, rfl, ho, hlo, hb⟩
  have HO := Lib.hid ho
  have HB := Lib.hid hb
  clear ho hlo hb g21
  go_wp2_with fail
  have hrg : Rings ((w1.alloc (.cells #[.int .i64 1, .int .i64 0, .slice (some ⟨B, 0, none⟩) 2 2] 37)).alloc (.cells #[.int .i64 0] 3)) (some ⟨B, 0, none⟩) 2 (basisR 1 0) :=
    ((HO.out.below (below1 _ _)).below (below1 _ _)).rings (fun r hr => ((basis_good 1 0 (by decide)).bd r hr).pt (by decide)) (by decide)
  have hin : Ints ((w1.alloc (.cells #[.int .i64 1, .int .i64 0, .slice (some ⟨B, 0, none⟩) 2 2] 37)).alloc (.cells #[.int .i64 0] 3)) (some ⟨w1.heap.size + 1, 0, none⟩) 1 [0] := ⟨by decide, by decide, .inr ⟨_, _, rfl, fun j hj => by
    obtain rfl : j = 0 := by simpa using hj
    exact cell_at (newB (k := w1.heap.size + 1) _ _ (by simp)) rfl⟩⟩
  go_at_call 22
  refine (hzero_calls _ _ _ _ _ hrg hin).mono ?_
  rintro e w2 ⟨B2, rfl, ho2, hlo2, hb2⟩
  have HO2 := Lib.hid ho2
  have HB2 : Hid (Below w.heap.size w w2) := Lib.hid (HB.out.trans (((below1 w1 _).trans ((below1 _ _).mono (by simp))).trans (hb2.mono (by simp; omega)) |>.mono HB.out.size))
  clear ho2 hlo2 hb2 hrg hin HO HB
  go_wp2_with fail
  go_at_call 23
  refine (new1_calls _).mono ?_
  rintro e w3 ⟨bm, b, rfl, hs, hlo3, hb3⟩
  have HS := Lib.hid hs
  have HBX : Hid (w3.heap[w2.heap.size]? = some (.cells #[.int .i64 1, .int .i64 1, .slice (some ⟨B2, 0, none⟩) 2 2] 37)) := Lib.hid (Below.heap_some hb3 (newB _ _ rfl))
  have HO3 : Hid (OwnR w3 B2 [oneR, oneR]) := Lib.hid ((HO2.out.below (below1 _ _)).below hb3)
  have HB3 : Hid (Below w.heap.size w w3) := Lib.hid ((HB2.out.alloc HB2.out.size _).trans (hb3.mono (HB2.out.alloc HB2.out.size _).size))
  have HLO3 : Hid (w.heap.size ≤ bm) := Lib.hid (Nat.le_trans (HB2.out.alloc HB2.out.size _).size hlo3)
  clear hs hlo3 hb3 HO2 HB2
  have t1 := cell_at (i := 1) HBX.out rfl
  have t2 := cell_at (i := 2) HBX.out rfl
  have hc := HO3.out.cells 1 (by decide)
  have a0 : w3.cell? ⟨B2, 2, none⟩ = some (.complex .f64 4607182418800017408 0) := by simpa [oneR, fl_one, fl_zero] using hc.1
  have a1 : w3.cell? ⟨B2, 3, none⟩ = some (.complex .f64 0 0) := by simpa [oneR, fl_one, fl_zero] using hc.2
  have hidx : ∀ W, (Instr.indexAt 35 (.slice (some ⟨B2, 0, none⟩) 2 2) (.int .i64 1)).run Tryz.prog W = .ok (.pointer (some ⟨B2, 2, none⟩)) W := fun W => idx35 .i64 B2 2 2 1 (by decide) W
  have hneq := HNEQ.out
  clear hc
  go_wp2_with fail
  go_at_call 17
  refine (sapply_calls bm b w3.heap.size 1 (by decide) _ ⟨Below.heap_some (below1 _ _) HS.out.box, HS.out.own.alloc _⟩ (cell_at (newB _ _ rfl) rfl)).mono ?_
  rintro e w4 ⟨rfl, bo, hs4, hb4⟩
  have HS4 := Lib.hid hs4
  have HB4 : Hid (Below w.heap.size w w4) := Lib.hid (hb4.above (HB3.out.alloc HB3.out.size _) HLO3.out)
  clear hs4 hb4 t1 t2 a0 a1 hidx hneq HS HBX HO3 HB3
  go_wp2_with fail
  go_at_call 24
  refine (terms_calls bm bo 2 w4 HS4.out).mono ?_
  rintro e w5 ⟨a, c, rfl, hb5⟩
  have HB5 := Lib.hid (HB4.out.trans (hb5.mono HB4.out.size))
  clear hb5
  go_wp2_with fail
  go_ret
  exact ⟨rfl, HB5.out⟩
end Go.Proofs.YtlobgpgdknjhlaaGreat.WH
