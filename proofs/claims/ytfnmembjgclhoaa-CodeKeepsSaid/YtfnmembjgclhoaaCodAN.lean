/- The document's Named: walked. -/
import Derived.Test.YtfnmembjgclhoaaCodAC
import Derived.Test.YtfnmembjgclhoaaCodAM
namespace Go.Proofs.Ytfnmembjgclhoaa.CD
open Go Go.RowKit
set_option linter.unusedVariables false
set_option linter.unusedSimpArgs false

set_option maxRecDepth 100000 in
set_option maxHeartbeats 4000000 in
theorem refnamed_bit3 (w : World) : Calls Try.prog 20 #[.string bit3W] w fun e w' => ∃ g gk x xk z zk, Made w 3 bit3G bit3X bit3Z g gk x xk z zk w' ∧ e = .returned (.tuple #[.agg #[.int .i64 3, .slice (some ⟨g, 0, none⟩) 2 gk, .slice (some ⟨x, 0, none⟩) 1 xk, .slice (some ⟨z, 0, none⟩) 1 zk], .int .i64 0]) := by
  have hbd : ∀ (p q r : Option Addr) (i1 i2 i3 i4 i5 i6 : Nat) (w : World), (Instr.build 24 #[(0, .int .i64 3), (1, .slice p i1 i2), (2, .slice q i3 i4), (3, .slice r i5 i6)]).run Try.prog w = .ok (.agg #[.int .i64 3, .slice p i1 i2, .slice q i3 i4, .slice r i5 i6]) w := fun p q r i1 i2 i3 i4 i5 i6 w => run_build w 24 _ _ (by kernel_rfl)
  have HN0 := Lib.hid (NSt.start w)
  unfold bit3W
  go_enter Try.func20, Try.ntmps20
  go_wp2_with fail
  go_at_call 46
  refine (spelled_calls _ bit3G _ (strs_new _ bit3G _ rfl (by simp)) (by decide) (by decide)).mono ?_
  rintro e w1 hlst
  obtain ⟨g, gk, rfl, hfg, hbg⟩ := hlst.fresh (by decide)
  have HN1 := Lib.hid (HN0.out.step (via1 hbg))
  have HG1 := Lib.hid hfg
  clear hfg hbg hlst
  go_wp2_with fail
  go_at_call 46
  refine (spelled_calls _ bit3X _ (strs_new _ bit3X _ rfl (by simp)) (by decide) (by decide)).mono ?_
  rintro e w2 hlst
  obtain ⟨x, xk, rfl, hfx, hbx⟩ := hlst.fresh (by decide)
  have HN2 := Lib.hid (HN1.out.step (via1 hbx))
  have HG2 := Lib.hid (HG1.out.below (via1 hbx))
  have HX2 := Lib.hid hfx
  have hgx : g < x := by have h1 := HG1.out.lt; have h2 := hfx.lo; simp at h2; omega
  clear hfx hbx hlst
  go_wp2_with fail
  go_at_call 46
  refine (spelled_calls _ bit3Z _ (strs_new _ bit3Z _ rfl (by simp)) (by decide) (by decide)).mono ?_
  rintro e w3 hlst
  obtain ⟨z, zk, rfl, hfz, hbz⟩ := hlst.fresh (by decide)
  have HN3 := Lib.hid (HN2.out.step (via1 hbz))
  have HG3 := Lib.hid (HG2.out.below (via1 hbz))
  have HX3 := Lib.hid (HX2.out.below (via1 hbz))
  have HZ3 := Lib.hid hfz
  have hxz : x < z := by have h1 := HX2.out.lt; have h2 := hfz.lo; simp at h2; omega
  have hs1 := HN1.out.lt
  have hs2 := HN2.out.lt
  have hlo := HG1.out.lo
  clear hfz hbz hlst
  obtain ⟨hb3, hlt3, o0, o1, o2, o3, hfr⟩ := HN3.out
  clear hb3
  go_wp2_with fail
  refine bodyPost_ret (v := .tuple #[.agg #[.int .i64 3, .slice (some ⟨g, 0, none⟩) 2 gk, .slice (some ⟨x, 0, none⟩) 1 xk, .slice (some ⟨z, 0, none⟩) 1 zk], .int .i64 0]) (by simp [results, Try.results20, go_sem, bit3G, bit3X, bit3Z, *]) rfl ⟨g, gk, x, xk, z, zk, ⟨?_, ?_, ?_, hgx, hxz, ?_⟩, rfl⟩
  · exact (Fresh.put (w := w) (b := w.heap.size) (HG3.out.mono (B' := w.heap.size + 1) (by simp)) (by omega) _ _ _ _).mono (by omega)
  · exact (Fresh.put (w := w) (b := w.heap.size) (HX3.out.mono (B' := w.heap.size + 1) (by simp; omega)) (by omega) _ _ _ _).mono (by omega)
  · exact (Fresh.put (w := w) (b := w.heap.size) (HZ3.out.mono (B' := w.heap.size + 1) (by simp; omega)) (by omega) _ _ _ _).mono (by omega)
  · exact put4 HN3.out.below (Nat.le_refl _) _ _ _ _

set_option maxRecDepth 100000 in
set_option maxHeartbeats 4000000 in
theorem refnamed_phase3 (w : World) : Calls Try.prog 20 #[.string phase3W] w fun e w' => ∃ g gk x xk z zk, Made w 3 phase3G phase3X phase3Z g gk x xk z zk w' ∧ e = .returned (.tuple #[.agg #[.int .i64 3, .slice (some ⟨g, 0, none⟩) 2 gk, .slice (some ⟨x, 0, none⟩) 1 xk, .slice (some ⟨z, 0, none⟩) 1 zk], .int .i64 0]) := by
  have hbd : ∀ (p q r : Option Addr) (i1 i2 i3 i4 i5 i6 : Nat) (w : World), (Instr.build 24 #[(0, .int .i64 3), (1, .slice p i1 i2), (2, .slice q i3 i4), (3, .slice r i5 i6)]).run Try.prog w = .ok (.agg #[.int .i64 3, .slice p i1 i2, .slice q i3 i4, .slice r i5 i6]) w := fun p q r i1 i2 i3 i4 i5 i6 w => run_build w 24 _ _ (by kernel_rfl)
  have HN0 := Lib.hid (NSt.start w)
  unfold phase3W
  go_enter Try.func20, Try.ntmps20
  go_wp2_with fail
  go_at_call 46
  refine (spelled_calls _ phase3G _ (strs_new _ phase3G _ rfl (by simp)) (by decide) (by decide)).mono ?_
  rintro e w1 hlst
  obtain ⟨g, gk, rfl, hfg, hbg⟩ := hlst.fresh (by decide)
  have HN1 := Lib.hid (HN0.out.step (via1 hbg))
  have HG1 := Lib.hid hfg
  clear hfg hbg hlst
  go_wp2_with fail
  go_at_call 46
  refine (spelled_calls _ phase3X _ (strs_new _ phase3X _ rfl (by simp)) (by decide) (by decide)).mono ?_
  rintro e w2 hlst
  obtain ⟨x, xk, rfl, hfx, hbx⟩ := hlst.fresh (by decide)
  have HN2 := Lib.hid (HN1.out.step (via1 hbx))
  have HG2 := Lib.hid (HG1.out.below (via1 hbx))
  have HX2 := Lib.hid hfx
  have hgx : g < x := by have h1 := HG1.out.lt; have h2 := hfx.lo; simp at h2; omega
  clear hfx hbx hlst
  go_wp2_with fail
  go_at_call 46
  refine (spelled_calls _ phase3Z _ (strs_new _ phase3Z _ rfl (by simp)) (by decide) (by decide)).mono ?_
  rintro e w3 hlst
  obtain ⟨z, zk, rfl, hfz, hbz⟩ := hlst.fresh (by decide)
  have HN3 := Lib.hid (HN2.out.step (via1 hbz))
  have HG3 := Lib.hid (HG2.out.below (via1 hbz))
  have HX3 := Lib.hid (HX2.out.below (via1 hbz))
  have HZ3 := Lib.hid hfz
  have hxz : x < z := by have h1 := HX2.out.lt; have h2 := hfz.lo; simp at h2; omega
  have hs1 := HN1.out.lt
  have hs2 := HN2.out.lt
  have hlo := HG1.out.lo
  clear hfz hbz hlst
  obtain ⟨hb3, hlt3, o0, o1, o2, o3, hfr⟩ := HN3.out
  clear hb3
  go_wp2_with fail
  refine bodyPost_ret (v := .tuple #[.agg #[.int .i64 3, .slice (some ⟨g, 0, none⟩) 2 gk, .slice (some ⟨x, 0, none⟩) 1 xk, .slice (some ⟨z, 0, none⟩) 1 zk], .int .i64 0]) (by simp [results, Try.results20, go_sem, phase3G, phase3X, phase3Z, *]) rfl ⟨g, gk, x, xk, z, zk, ⟨?_, ?_, ?_, hgx, hxz, ?_⟩, rfl⟩
  · exact (Fresh.put (w := w) (b := w.heap.size) (HG3.out.mono (B' := w.heap.size + 1) (by simp)) (by omega) _ _ _ _).mono (by omega)
  · exact (Fresh.put (w := w) (b := w.heap.size) (HX3.out.mono (B' := w.heap.size + 1) (by simp; omega)) (by omega) _ _ _ _).mono (by omega)
  · exact (Fresh.put (w := w) (b := w.heap.size) (HZ3.out.mono (B' := w.heap.size + 1) (by simp; omega)) (by omega) _ _ _ _).mono (by omega)
  · exact put4 HN3.out.below (Nat.le_refl _) _ _ _ _

set_option maxRecDepth 100000 in
set_option maxHeartbeats 4000000 in
theorem refnamed_five (w : World) : Calls Try.prog 20 #[.string fiveW] w fun e w' => ∃ g gk x xk z zk, Made w 5 fiveG fiveX fiveZ g gk x xk z zk w' ∧ e = .returned (.tuple #[.agg #[.int .i64 5, .slice (some ⟨g, 0, none⟩) 4 gk, .slice (some ⟨x, 0, none⟩) 1 xk, .slice (some ⟨z, 0, none⟩) 1 zk], .int .i64 0]) := by
  have hbd : ∀ (p q r : Option Addr) (i1 i2 i3 i4 i5 i6 : Nat) (w : World), (Instr.build 24 #[(0, .int .i64 5), (1, .slice p i1 i2), (2, .slice q i3 i4), (3, .slice r i5 i6)]).run Try.prog w = .ok (.agg #[.int .i64 5, .slice p i1 i2, .slice q i3 i4, .slice r i5 i6]) w := fun p q r i1 i2 i3 i4 i5 i6 w => run_build w 24 _ _ (by kernel_rfl)
  have HN0 := Lib.hid (NSt.start w)
  unfold fiveW
  go_enter Try.func20, Try.ntmps20
  go_wp2_with fail
  go_at_call 46
  refine (spelled_calls _ fiveG _ (strs_new _ fiveG _ rfl (by simp)) (by decide) (by decide)).mono ?_
  rintro e w1 hlst
  obtain ⟨g, gk, rfl, hfg, hbg⟩ := hlst.fresh (by decide)
  have HN1 := Lib.hid (HN0.out.step (via1 hbg))
  have HG1 := Lib.hid hfg
  clear hfg hbg hlst
  go_wp2_with fail
  go_at_call 46
  refine (spelled_calls _ fiveX _ (strs_new _ fiveX _ rfl (by simp)) (by decide) (by decide)).mono ?_
  rintro e w2 hlst
  obtain ⟨x, xk, rfl, hfx, hbx⟩ := hlst.fresh (by decide)
  have HN2 := Lib.hid (HN1.out.step (via1 hbx))
  have HG2 := Lib.hid (HG1.out.below (via1 hbx))
  have HX2 := Lib.hid hfx
  have hgx : g < x := by have h1 := HG1.out.lt; have h2 := hfx.lo; simp at h2; omega
  clear hfx hbx hlst
  go_wp2_with fail
  go_at_call 46
  refine (spelled_calls _ fiveZ _ (strs_new _ fiveZ _ rfl (by simp)) (by decide) (by decide)).mono ?_
  rintro e w3 hlst
  obtain ⟨z, zk, rfl, hfz, hbz⟩ := hlst.fresh (by decide)
  have HN3 := Lib.hid (HN2.out.step (via1 hbz))
  have HG3 := Lib.hid (HG2.out.below (via1 hbz))
  have HX3 := Lib.hid (HX2.out.below (via1 hbz))
  have HZ3 := Lib.hid hfz
  have hxz : x < z := by have h1 := HX2.out.lt; have h2 := hfz.lo; simp at h2; omega
  have hs1 := HN1.out.lt
  have hs2 := HN2.out.lt
  have hlo := HG1.out.lo
  clear hfz hbz hlst
  obtain ⟨hb3, hlt3, o0, o1, o2, o3, hfr⟩ := HN3.out
  clear hb3
  go_wp2_with fail
  refine bodyPost_ret (v := .tuple #[.agg #[.int .i64 5, .slice (some ⟨g, 0, none⟩) 4 gk, .slice (some ⟨x, 0, none⟩) 1 xk, .slice (some ⟨z, 0, none⟩) 1 zk], .int .i64 0]) (by simp [results, Try.results20, go_sem, fiveG, fiveX, fiveZ, *]) rfl ⟨g, gk, x, xk, z, zk, ⟨?_, ?_, ?_, hgx, hxz, ?_⟩, rfl⟩
  · exact (Fresh.put (w := w) (b := w.heap.size) (HG3.out.mono (B' := w.heap.size + 1) (by simp)) (by omega) _ _ _ _).mono (by omega)
  · exact (Fresh.put (w := w) (b := w.heap.size) (HX3.out.mono (B' := w.heap.size + 1) (by simp; omega)) (by omega) _ _ _ _).mono (by omega)
  · exact (Fresh.put (w := w) (b := w.heap.size) (HZ3.out.mono (B' := w.heap.size + 1) (by simp; omega)) (by omega) _ _ _ _).mono (by omega)
  · exact put4 HN3.out.below (Nat.le_refl _) _ _ _ _

set_option maxRecDepth 100000 in
set_option maxHeartbeats 4000000 in
theorem refnamed_steane (w : World) : Calls Try.prog 20 #[.string steaneW] w fun e w' => ∃ g gk x xk z zk, Made w 7 steaneG steaneX steaneZ g gk x xk z zk w' ∧ e = .returned (.tuple #[.agg #[.int .i64 7, .slice (some ⟨g, 0, none⟩) 6 gk, .slice (some ⟨x, 0, none⟩) 1 xk, .slice (some ⟨z, 0, none⟩) 1 zk], .int .i64 0]) := by
  have hbd : ∀ (p q r : Option Addr) (i1 i2 i3 i4 i5 i6 : Nat) (w : World), (Instr.build 24 #[(0, .int .i64 7), (1, .slice p i1 i2), (2, .slice q i3 i4), (3, .slice r i5 i6)]).run Try.prog w = .ok (.agg #[.int .i64 7, .slice p i1 i2, .slice q i3 i4, .slice r i5 i6]) w := fun p q r i1 i2 i3 i4 i5 i6 w => run_build w 24 _ _ (by kernel_rfl)
  have HN0 := Lib.hid (NSt.start w)
  unfold steaneW
  go_enter Try.func20, Try.ntmps20
  go_wp2_with fail
  go_at_call 46
  refine (spelled_calls _ steaneG _ (strs_new _ steaneG _ rfl (by simp)) (by decide) (by decide)).mono ?_
  rintro e w1 hlst
  obtain ⟨g, gk, rfl, hfg, hbg⟩ := hlst.fresh (by decide)
  have HN1 := Lib.hid (HN0.out.step (via1 hbg))
  have HG1 := Lib.hid hfg
  clear hfg hbg hlst
  go_wp2_with fail
  go_at_call 46
  refine (spelled_calls _ steaneX _ (strs_new _ steaneX _ rfl (by simp)) (by decide) (by decide)).mono ?_
  rintro e w2 hlst
  obtain ⟨x, xk, rfl, hfx, hbx⟩ := hlst.fresh (by decide)
  have HN2 := Lib.hid (HN1.out.step (via1 hbx))
  have HG2 := Lib.hid (HG1.out.below (via1 hbx))
  have HX2 := Lib.hid hfx
  have hgx : g < x := by have h1 := HG1.out.lt; have h2 := hfx.lo; simp at h2; omega
  clear hfx hbx hlst
  go_wp2_with fail
  go_at_call 46
  refine (spelled_calls _ steaneZ _ (strs_new _ steaneZ _ rfl (by simp)) (by decide) (by decide)).mono ?_
  rintro e w3 hlst
  obtain ⟨z, zk, rfl, hfz, hbz⟩ := hlst.fresh (by decide)
  have HN3 := Lib.hid (HN2.out.step (via1 hbz))
  have HG3 := Lib.hid (HG2.out.below (via1 hbz))
  have HX3 := Lib.hid (HX2.out.below (via1 hbz))
  have HZ3 := Lib.hid hfz
  have hxz : x < z := by have h1 := HX2.out.lt; have h2 := hfz.lo; simp at h2; omega
  have hs1 := HN1.out.lt
  have hs2 := HN2.out.lt
  have hlo := HG1.out.lo
  clear hfz hbz hlst
  obtain ⟨hb3, hlt3, o0, o1, o2, o3, hfr⟩ := HN3.out
  clear hb3
  go_wp2_with fail
  refine bodyPost_ret (v := .tuple #[.agg #[.int .i64 7, .slice (some ⟨g, 0, none⟩) 6 gk, .slice (some ⟨x, 0, none⟩) 1 xk, .slice (some ⟨z, 0, none⟩) 1 zk], .int .i64 0]) (by simp [results, Try.results20, go_sem, steaneG, steaneX, steaneZ, *]) rfl ⟨g, gk, x, xk, z, zk, ⟨?_, ?_, ?_, hgx, hxz, ?_⟩, rfl⟩
  · exact (Fresh.put (w := w) (b := w.heap.size) (HG3.out.mono (B' := w.heap.size + 1) (by simp)) (by omega) _ _ _ _).mono (by omega)
  · exact (Fresh.put (w := w) (b := w.heap.size) (HX3.out.mono (B' := w.heap.size + 1) (by simp; omega)) (by omega) _ _ _ _).mono (by omega)
  · exact (Fresh.put (w := w) (b := w.heap.size) (HZ3.out.mono (B' := w.heap.size + 1) (by simp; omega)) (by omega) _ _ _ _).mono (by omega)
  · exact put4 HN3.out.below (Nat.le_refl _) _ _ _ _

end Go.Proofs.Ytfnmembjgclhoaa.CD
