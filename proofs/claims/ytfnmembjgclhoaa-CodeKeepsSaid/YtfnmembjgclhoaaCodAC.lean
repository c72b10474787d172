/- Named: walked. -/
import Derived.Test.YtfnmembjgclhoaaCodAB
namespace Go.Proofs.Ytfnmembjgclhoaa.CD
open Go Go.RowKit
set_option linter.unusedVariables false
set_option linter.unusedSimpArgs false

/-- A list in a block of its own. -/
structure Fresh (W : World) (B g k : Nat) (ps : List Pau) : Prop where
  own : W.ownsRow g 27 4 (.slice (some ⟨g, 0, none⟩) ps.length k) ps.length (flat ps)
  lo : B ≤ g
  lt : g < W.heap.size
theorem Fresh.below {W W' : World} {B g k : Nat} {ps : List Pau} (h : Fresh W B g k ps) (hb : Below W.heap.size W W') : Fresh W' B g k ps := ⟨own_below h.own hb, h.lo, Nat.lt_of_lt_of_le h.lt hb.size⟩
theorem Listed.fresh {w : World} {ps : List Pau} {x : Ending} {w' : World} (h : Listed w ps x w') (h0 : 0 < ps.length) : ∃ g k, x = .returned (.slice (some ⟨g, 0, none⟩) ps.length k) ∧ Fresh w' w.heap.size g k ps ∧ Below w.heap.size w w' := by
  obtain ⟨v, rfl, hown, hb⟩ := h
  rcases hown.2 with ⟨_, h1⟩ | ⟨g, k, cur, rfl, h1, h2, h3⟩
  · omega
  · exact ⟨g, k, rfl, ⟨⟨hown.1, .inr ⟨g, k, cur, rfl, Nat.le_refl _, h2, h3⟩⟩, h1, (hown.lt g rfl).2⟩, hb⟩

def bit3W : ByteArray := (⟨#[98, 105, 116, 51]⟩ : ByteArray)
def bit3G : List ByteArray := [(⟨#[90, 90, 73]⟩ : ByteArray), (⟨#[73, 90, 90]⟩ : ByteArray)]
def bit3X : List ByteArray := [(⟨#[88, 88, 88]⟩ : ByteArray)]
def bit3Z : List ByteArray := [(⟨#[90, 73, 73]⟩ : ByteArray)]
def phase3W : ByteArray := (⟨#[112, 104, 97, 115, 101, 51]⟩ : ByteArray)
def phase3G : List ByteArray := [(⟨#[88, 88, 73]⟩ : ByteArray), (⟨#[73, 88, 88]⟩ : ByteArray)]
def phase3X : List ByteArray := [(⟨#[90, 90, 90]⟩ : ByteArray)]
def phase3Z : List ByteArray := [(⟨#[88, 73, 73]⟩ : ByteArray)]
def fiveW : ByteArray := (⟨#[102, 105, 118, 101]⟩ : ByteArray)
def fiveG : List ByteArray := [(⟨#[88, 90, 90, 88, 73]⟩ : ByteArray), (⟨#[73, 88, 90, 90, 88]⟩ : ByteArray), (⟨#[88, 73, 88, 90, 90]⟩ : ByteArray), (⟨#[90, 88, 73, 88, 90]⟩ : ByteArray)]
def fiveX : List ByteArray := [(⟨#[88, 88, 88, 88, 88]⟩ : ByteArray)]
def fiveZ : List ByteArray := [(⟨#[90, 90, 90, 90, 90]⟩ : ByteArray)]
def steaneW : ByteArray := (⟨#[115, 116, 101, 97, 110, 101]⟩ : ByteArray)
def steaneG : List ByteArray := [(⟨#[73, 73, 73, 88, 88, 88, 88]⟩ : ByteArray), (⟨#[73, 88, 88, 73, 73, 88, 88]⟩ : ByteArray), (⟨#[88, 73, 88, 73, 88, 73, 88]⟩ : ByteArray), (⟨#[73, 73, 73, 90, 90, 90, 90]⟩ : ByteArray), (⟨#[73, 90, 90, 73, 73, 90, 90]⟩ : ByteArray), (⟨#[90, 73, 90, 73, 90, 73, 90]⟩ : ByteArray)]
def steaneX : List ByteArray := [(⟨#[88, 88, 88, 88, 88, 88, 88]⟩ : ByteArray)]
def steaneZ : List ByteArray := [(⟨#[90, 90, 90, 90, 90, 90, 90]⟩ : ByteArray)]

/-- A code that was just made. -/
structure Made (w : World) (n : Int) (G X Z : List ByteArray) (g gk x xk z zk : Nat) (W : World) : Prop where
  fg : Fresh W w.heap.size g gk (G.map spell)
  fx : Fresh W w.heap.size x xk (X.map spell)
  fz : Fresh W w.heap.size z zk (Z.map spell)
  gx : g < x
  xz : x < z
  below : Below w.heap.size w W
theorem Fresh.mono {W : World} {B B' g k : Nat} {ps : List Pau} (h : Fresh W B g k ps) (hB : B' ≤ B) : Fresh W B' g k ps := ⟨h.own, Nat.le_trans hB h.lo, h.lt⟩
theorem Fresh.put {w W : World} {B g k b : Nat} {ps : List Pau} (h : Fresh W B g k ps) (hb : b < B) (v0 v1 v2 v3 : Value) : Fresh ((((W.setCell ⟨b, 0, none⟩ v0).setCell ⟨b, 1, none⟩ v1).setCell ⟨b, 2, none⟩ v2).setCell ⟨b, 3, none⟩ v3) B g k ps := by
  have hbg := Nat.lt_of_lt_of_le hb h.lo
  exact ⟨ownsRow_setCell_below (ownsRow_setCell_below (ownsRow_setCell_below (ownsRow_setCell_below h.own (a := ⟨b, 0, none⟩) hbg v0) (a := ⟨b, 1, none⟩) hbg v1) (a := ⟨b, 2, none⟩) hbg v2) (a := ⟨b, 3, none⟩) hbg v3, h.lo, by simpa using h.lt⟩
/-- The answer's cells. -/
structure NSt (w W : World) : Prop where
  below : Below w.heap.size w W
  lt : w.heap.size < W.heap.size
  o0 : W.cell? ⟨w.heap.size, 0, none⟩ = some (.int .i64 0)
  o1 : W.cell? ⟨w.heap.size, 1, none⟩ = some (.slice none 0 0)
  o2 : W.cell? ⟨w.heap.size, 2, none⟩ = some (.slice none 0 0)
  o3 : W.cell? ⟨w.heap.size, 3, none⟩ = some (.slice none 0 0)
  fr : ∀ i, W.frozen? ⟨w.heap.size, i, none⟩ = false
theorem NSt.start (w : World) : NSt w (w.alloc (.cells #[.int .i64 0, .slice none 0 0, .slice none 0 0, .slice none 0 0] 24)) :=
  ⟨below1 _ _, by simp, cell_of (newAt _ _ rfl) rfl, cell_of (newAt _ _ rfl) rfl, cell_of (newAt _ _ rfl) rfl, cell_of (newAt _ _ rfl) rfl, fun i => free_of (newAt _ _ rfl)⟩
theorem NSt.step {w W W' : World} (h : NSt w W) (hb : Below W.heap.size W W') : NSt w W' :=
  ⟨h.below.trans (hb.mono h.below.size), Nat.lt_of_lt_of_le h.lt hb.size, (hb.cell (p := ⟨w.heap.size, 0, none⟩) h.lt).trans h.o0, (hb.cell (p := ⟨w.heap.size, 1, none⟩) h.lt).trans h.o1, (hb.cell (p := ⟨w.heap.size, 2, none⟩) h.lt).trans h.o2, (hb.cell (p := ⟨w.heap.size, 3, none⟩) h.lt).trans h.o3, fun i => (hb.frozen (p := ⟨w.heap.size, i, none⟩) h.lt).trans (h.fr i)⟩
theorem strs_new (W : World) (ws : List ByteArray) (cs : Array Value) (h : cs.toList = ws.map Value.string) {b : Nat} (hb : b = W.heap.size) : Strs (W.alloc (.cells cs 9)) b ws := fun i hi => by
  refine cell_of (newAt _ _ hb) ?_
  rw [← Array.getElem?_toList, h]
  simp [hi]

set_option maxRecDepth 100000 in
set_option maxHeartbeats 4000000 in
theorem named_bit3 (w : World) : Calls Try.prog 21 #[.string bit3W] w fun e w' => ∃ g gk x xk z zk, Made w 3 bit3G bit3X bit3Z g gk x xk z zk w' ∧ e = .returned (.tuple #[.agg #[.int .i64 3, .slice (some ⟨g, 0, none⟩) 2 gk, .slice (some ⟨x, 0, none⟩) 1 xk, .slice (some ⟨z, 0, none⟩) 1 zk], .int .i64 0]) := by
  have hbd : ∀ (p q r : Option Addr) (i1 i2 i3 i4 i5 i6 : Nat) (w : World), (Instr.build 24 #[(0, .int .i64 3), (1, .slice p i1 i2), (2, .slice q i3 i4), (3, .slice r i5 i6)]).run Try.prog w = .ok (.agg #[.int .i64 3, .slice p i1 i2, .slice q i3 i4, .slice r i5 i6]) w := fun p q r i1 i2 i3 i4 i5 i6 w => run_build w 24 _ _ (by kernel_rfl)
  have HN0 := Lib.hid (NSt.start w)
  unfold bit3W
  go_enter Try.func21, Try.ntmps21
  go_wp2_with fail
  go_at_call 47
  refine (list_calls _ bit3G _ (strs_new _ bit3G _ rfl (by simp)) (by decide) (by decide)).mono ?_
  rintro e w1 hlst
  obtain ⟨g, gk, rfl, hfg, hbg⟩ := hlst.fresh (by decide)
  have HN1 := Lib.hid (HN0.out.step (via1 hbg))
  have HG1 := Lib.hid hfg
  clear hfg hbg hlst
  go_wp2_with fail
  go_at_call 47
  refine (list_calls _ bit3X _ (strs_new _ bit3X _ rfl (by simp)) (by decide) (by decide)).mono ?_
  rintro e w2 hlst
  obtain ⟨x, xk, rfl, hfx, hbx⟩ := hlst.fresh (by decide)
  have HN2 := Lib.hid (HN1.out.step (via1 hbx))
  have HG2 := Lib.hid (HG1.out.below (via1 hbx))
  have HX2 := Lib.hid hfx
  have hgx : g < x := by have h1 := HG1.out.lt; have h2 := hfx.lo; simp at h2; omega
  clear hfx hbx hlst
  go_wp2_with fail
  go_at_call 47
  refine (list_calls _ bit3Z _ (strs_new _ bit3Z _ rfl (by simp)) (by decide) (by decide)).mono ?_
  rintro e w3 hlst
  obtain ⟨z, zk, rfl, hfz, hbz⟩ := hlst.fresh (by decide)
  have HN3 := Lib.hid (HN2.out.step (via1 hbz))
  have HG3 := Lib.hid (HG2.out.below (via1 hbz))
  have HX3 := Lib.hid (HX2.out.below (via1 hbz))
  have HZ3 := Lib.hid hfz
  have hxz : x < z := by have h1 := HX2.out.lt; have h2 := hfz.lo; simp at h2; omega
  have hs1 := HN1.out.lt
  have hs2 := HN2.out.lt
  have hlo := HG1.out.lo
  clear hfz hbz hlst
  obtain ⟨hb3, hlt3, o0, o1, o2, o3, hfr⟩ := HN3.out
  clear hb3
  go_wp2_with fail
  refine bodyPost_ret (v := .tuple #[.agg #[.int .i64 3, .slice (some ⟨g, 0, none⟩) 2 gk, .slice (some ⟨x, 0, none⟩) 1 xk, .slice (some ⟨z, 0, none⟩) 1 zk], .int .i64 0]) (by simp [results, Try.results21, go_sem, bit3G, bit3X, bit3Z, *]) rfl ⟨g, gk, x, xk, z, zk, ⟨?_, ?_, ?_, hgx, hxz, ?_⟩, rfl⟩
  · exact (Fresh.put (w := w) (b := w.heap.size) (HG3.out.mono (B' := w.heap.size + 1) (by simp)) (by omega) _ _ _ _).mono (by omega)
  · exact (Fresh.put (w := w) (b := w.heap.size) (HX3.out.mono (B' := w.heap.size + 1) (by simp; omega)) (by omega) _ _ _ _).mono (by omega)
  · exact (Fresh.put (w := w) (b := w.heap.size) (HZ3.out.mono (B' := w.heap.size + 1) (by simp; omega)) (by omega) _ _ _ _).mono (by omega)
  · exact put4 HN3.out.below (Nat.le_refl _) _ _ _ _

set_option maxRecDepth 100000 in
set_option maxHeartbeats 4000000 in
theorem named_phase3 (w : World) : Calls Try.prog 21 #[.string phase3W] w fun e w' => ∃ g gk x xk z zk, Made w 3 phase3G phase3X phase3Z g gk x xk z zk w' ∧ e = .returned (.tuple #[.agg #[.int .i64 3, .slice (some ⟨g, 0, none⟩) 2 gk, .slice (some ⟨x, 0, none⟩) 1 xk, .slice (some ⟨z, 0, none⟩) 1 zk], .int .i64 0]) := by
  have hbd : ∀ (p q r : Option Addr) (i1 i2 i3 i4 i5 i6 : Nat) (w : World), (Instr.build 24 #[(0, .int .i64 3), (1, .slice p i1 i2), (2, .slice q i3 i4), (3, .slice r i5 i6)]).run Try.prog w = .ok (.agg #[.int .i64 3, .slice p i1 i2, .slice q i3 i4, .slice r i5 i6]) w := fun p q r i1 i2 i3 i4 i5 i6 w => run_build w 24 _ _ (by kernel_rfl)
  have HN0 := Lib.hid (NSt.start w)
  unfold phase3W
  go_enter Try.func21, Try.ntmps21
  go_wp2_with fail
  go_at_call 47
  refine (list_calls _ phase3G _ (strs_new _ phase3G _ rfl (by simp)) (by decide) (by decide)).mono ?_
  rintro e w1 hlst
  obtain ⟨g, gk, rfl, hfg, hbg⟩ := hlst.fresh (by decide)
  have HN1 := Lib.hid (HN0.out.step (via1 hbg))
  have HG1 := Lib.hid hfg
  clear hfg hbg hlst
  go_wp2_with fail
  go_at_call 47
  refine (list_calls _ phase3X _ (strs_new _ phase3X _ rfl (by simp)) (by decide) (by decide)).mono ?_
  rintro e w2 hlst
  obtain ⟨x, xk, rfl, hfx, hbx⟩ := hlst.fresh (by decide)
  have HN2 := Lib.hid (HN1.out.step (via1 hbx))
  have HG2 := Lib.hid (HG1.out.below (via1 hbx))
  have HX2 := Lib.hid hfx
  have hgx : g < x := by have h1 := HG1.out.lt; have h2 := hfx.lo; simp at h2; omega
  clear hfx hbx hlst
  go_wp2_with fail
  go_at_call 47
  refine (list_calls _ phase3Z _ (strs_new _ phase3Z _ rfl (by simp)) (by decide) (by decide)).mono ?_
  rintro e w3 hlst
  obtain ⟨z, zk, rfl, hfz, hbz⟩ := hlst.fresh (by decide)
  have HN3 := Lib.hid (HN2.out.step (via1 hbz))
  have HG3 := Lib.hid (HG2.out.below (via1 hbz))
  have HX3 := Lib.hid (HX2.out.below (via1 hbz))
  have HZ3 := Lib.hid hfz
  have hxz : x < z := by have h1 := HX2.out.lt; have h2 := hfz.lo; simp at h2; omega
  have hs1 := HN1.out.lt
  have hs2 := HN2.out.lt
  have hlo := HG1.out.lo
  clear hfz hbz hlst
  obtain ⟨hb3, hlt3, o0, o1, o2, o3, hfr⟩ := HN3.out
  clear hb3
  go_wp2_with fail
  refine bodyPost_ret (v := .tuple #[.agg #[.int .i64 3, .slice (some ⟨g, 0, none⟩) 2 gk, .slice (some ⟨x, 0, none⟩) 1 xk, .slice (some ⟨z, 0, none⟩) 1 zk], .int .i64 0]) (by simp [results, Try.results21, go_sem, phase3G, phase3X, phase3Z, *]) rfl ⟨g, gk, x, xk, z, zk, ⟨?_, ?_, ?_, hgx, hxz, ?_⟩, rfl⟩
  · exact (Fresh.put (w := w) (b := w.heap.size) (HG3.out.mono (B' := w.heap.size + 1) (by simp)) (by omega) _ _ _ _).mono (by omega)
  · exact (Fresh.put (w := w) (b := w.heap.size) (HX3.out.mono (B' := w.heap.size + 1) (by simp; omega)) (by omega) _ _ _ _).mono (by omega)
  · exact (Fresh.put (w := w) (b := w.heap.size) (HZ3.out.mono (B' := w.heap.size + 1) (by simp; omega)) (by omega) _ _ _ _).mono (by omega)
  · exact put4 HN3.out.below (Nat.le_refl _) _ _ _ _

set_option maxRecDepth 100000 in
set_option maxHeartbeats 4000000 in
theorem named_five (w : World) : Calls Try.prog 21 #[.string fiveW] w fun e w' => ∃ g gk x xk z zk, Made w 5 fiveG fiveX fiveZ g gk x xk z zk w' ∧ e = .returned (.tuple #[.agg #[.int .i64 5, .slice (some ⟨g, 0, none⟩) 4 gk, .slice (some ⟨x, 0, none⟩) 1 xk, .slice (some ⟨z, 0, none⟩) 1 zk], .int .i64 0]) := by
  have hbd : ∀ (p q r : Option Addr) (i1 i2 i3 i4 i5 i6 : Nat) (w : World), (Instr.build 24 #[(0, .int .i64 5), (1, .slice p i1 i2), (2, .slice q i3 i4), (3, .slice r i5 i6)]).run Try.prog w = .ok (.agg #[.int .i64 5, .slice p i1 i2, .slice q i3 i4, .slice r i5 i6]) w := fun p q r i1 i2 i3 i4 i5 i6 w => run_build w 24 _ _ (by kernel_rfl)
  have HN0 := Lib.hid (NSt.start w)
  unfold fiveW
  go_enter Try.func21, Try.ntmps21
  go_wp2_with fail
  go_at_call 47
  refine (list_calls _ fiveG _ (strs_new _ fiveG _ rfl (by simp)) (by decide) (by decide)).mono ?_
  rintro e w1 hlst
  obtain ⟨g, gk, rfl, hfg, hbg⟩ := hlst.fresh (by decide)
  have HN1 := Lib.hid (HN0.out.step (via1 hbg))
  have HG1 := Lib.hid hfg
  clear hfg hbg hlst
  go_wp2_with fail
  go_at_call 47
  refine (list_calls _ fiveX _ (strs_new _ fiveX _ rfl (by simp)) (by decide) (by decide)).mono ?_
  rintro e w2 hlst
  obtain ⟨x, xk, rfl, hfx, hbx⟩ := hlst.fresh (by decide)
  have HN2 := Lib.hid (HN1.out.step (via1 hbx))
  have HG2 := Lib.hid (HG1.out.below (via1 hbx))
  have HX2 := Lib.hid hfx
  have hgx : g < x := by have h1 := HG1.out.lt; have h2 := hfx.lo; simp at h2; omega
  clear hfx hbx hlst
  go_wp2_with fail
  go_at_call 47
  refine (list_calls _ fiveZ _ (strs_new _ fiveZ _ rfl (by simp)) (by decide) (by decide)).mono ?_
  rintro e w3 hlst
  obtain ⟨z, zk, rfl, hfz, hbz⟩ := hlst.fresh (by decide)
  have HN3 := Lib.hid (HN2.out.step (via1 hbz))
  have HG3 := Lib.hid (HG2.out.below (via1 hbz))
  have HX3 := Lib.hid (HX2.out.below (via1 hbz))
  have HZ3 := Lib.hid hfz
  have hxz : x < z := by have h1 := HX2.out.lt; have h2 := hfz.lo; simp at h2; omega
  have hs1 := HN1.out.lt
  have hs2 := HN2.out.lt
  have hlo := HG1.out.lo
  clear hfz hbz hlst
  obtain ⟨hb3, hlt3, o0, o1, o2, o3, hfr⟩ := HN3.out
  clear hb3
  go_wp2_with fail
  refine bodyPost_ret (v := .tuple #[.agg #[.int .i64 5, .slice (some ⟨g, 0, none⟩) 4 gk, .slice (some ⟨x, 0, none⟩) 1 xk, .slice (some ⟨z, 0, none⟩) 1 zk], .int .i64 0]) (by simp [results, Try.results21, go_sem, fiveG, fiveX, fiveZ, *]) rfl ⟨g, gk, x, xk, z, zk, ⟨?_, ?_, ?_, hgx, hxz, ?_⟩, rfl⟩
  · exact (Fresh.put (w := w) (b := w.heap.size) (HG3.out.mono (B' := w.heap.size + 1) (by simp)) (by omega) _ _ _ _).mono (by omega)
  · exact (Fresh.put (w := w) (b := w.heap.size) (HX3.out.mono (B' := w.heap.size + 1) (by simp; omega)) (by omega) _ _ _ _).mono (by omega)
  · exact (Fresh.put (w := w) (b := w.heap.size) (HZ3.out.mono (B' := w.heap.size + 1) (by simp; omega)) (by omega) _ _ _ _).mono (by omega)
  · exact put4 HN3.out.below (Nat.le_refl _) _ _ _ _

set_option maxRecDepth 100000 in
set_option maxHeartbeats 4000000 in
theorem named_steane (w : World) : Calls Try.prog 21 #[.string steaneW] w fun e w' => ∃ g gk x xk z zk, Made w 7 steaneG steaneX steaneZ g gk x xk z zk w' ∧ e = .returned (.tuple #[.agg #[.int .i64 7, .slice (some ⟨g, 0, none⟩) 6 gk, .slice (some ⟨x, 0, none⟩) 1 xk, .slice (some ⟨z, 0, none⟩) 1 zk], .int .i64 0]) := by
  have hbd : ∀ (p q r : Option Addr) (i1 i2 i3 i4 i5 i6 : Nat) (w : World), (Instr.build 24 #[(0, .int .i64 7), (1, .slice p i1 i2), (2, .slice q i3 i4), (3, .slice r i5 i6)]).run Try.prog w = .ok (.agg #[.int .i64 7, .slice p i1 i2, .slice q i3 i4, .slice r i5 i6]) w := fun p q r i1 i2 i3 i4 i5 i6 w => run_build w 24 _ _ (by kernel_rfl)
  have HN0 := Lib.hid (NSt.start w)
  unfold steaneW
  go_enter Try.func21, Try.ntmps21
  go_wp2_with fail
  go_at_call 47
  refine (list_calls _ steaneG _ (strs_new _ steaneG _ rfl (by simp)) (by decide) (by decide)).mono ?_
  rintro e w1 hlst
  obtain ⟨g, gk, rfl, hfg, hbg⟩ := hlst.fresh (by decide)
  have HN1 := Lib.hid (HN0.out.step (via1 hbg))
  have HG1 := Lib.hid hfg
  clear hfg hbg hlst
  go_wp2_with fail
  go_at_call 47
  refine (list_calls _ steaneX _ (strs_new _ steaneX _ rfl (by simp)) (by decide) (by decide)).mono ?_
  rintro e w2 hlst
  obtain ⟨x, xk, rfl, hfx, hbx⟩ := hlst.fresh (by decide)
  have HN2 := Lib.hid (HN1.out.step (via1 hbx))
  have HG2 := Lib.hid (HG1.out.below (via1 hbx))
  have HX2 := Lib.hid hfx
  have hgx : g < x := by have h1 := HG1.out.lt; have h2 := hfx.lo; simp at h2; omega
  clear hfx hbx hlst
  go_wp2_with fail
  go_at_call 47
  refine (list_calls _ steaneZ _ (strs_new _ steaneZ _ rfl (by simp)) (by decide) (by decide)).mono ?_
  rintro e w3 hlst
  obtain ⟨z, zk, rfl, hfz, hbz⟩ := hlst.fresh (by decide)
  have HN3 := Lib.hid (HN2.out.step (via1 hbz))
  have HG3 := Lib.hid (HG2.out.below (via1 hbz))
  have HX3 := Lib.hid (HX2.out.below (via1 hbz))
  have HZ3 := Lib.hid hfz
  have hxz : x < z := by have h1 := HX2.out.lt; have h2 := hfz.lo; simp at h2; omega
  have hs1 := HN1.out.lt
  have hs2 := HN2.out.lt
  have hlo := HG1.out.lo
  clear hfz hbz hlst
  obtain ⟨hb3, hlt3, o0, o1, o2, o3, hfr⟩ := HN3.out
  clear hb3
  go_wp2_with fail
  refine bodyPost_ret (v := .tuple #[.agg #[.int .i64 7, .slice (some ⟨g, 0, none⟩) 6 gk, .slice (some ⟨x, 0, none⟩) 1 xk, .slice (some ⟨z, 0, none⟩) 1 zk], .int .i64 0]) (by simp [results, Try.results21, go_sem, steaneG, steaneX, steaneZ, *]) rfl ⟨g, gk, x, xk, z, zk, ⟨?_, ?_, ?_, hgx, hxz, ?_⟩, rfl⟩
  · exact (Fresh.put (w := w) (b := w.heap.size) (HG3.out.mono (B' := w.heap.size + 1) (by simp)) (by omega) _ _ _ _).mono (by omega)
  · exact (Fresh.put (w := w) (b := w.heap.size) (HX3.out.mono (B' := w.heap.size + 1) (by simp; omega)) (by omega) _ _ _ _).mono (by omega)
  · exact (Fresh.put (w := w) (b := w.heap.size) (HZ3.out.mono (B' := w.heap.size + 1) (by simp; omega)) (by omega) _ _ _ _).mono (by omega)
  · exact put4 HN3.out.below (Nat.le_refl _) _ _ _ _

end Go.Proofs.Ytfnmembjgclhoaa.CD
