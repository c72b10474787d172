/- Logical: walked. -/
import Derived.Test.YtfnmembjgclhoaaCodO
namespace Go.Proofs.Ytfnmembjgclhoaa.CD
open Go Go.RowKit
set_option linter.unusedVariables false
set_option linter.unusedSimpArgs false

/-- Two boxes and a cell for the answer. -/
structure Box3 (w : World) (c : Cod) (p : Pau) (W : World) : Prop where
  two : Box2 w c p W
  o : Cells4 W (w.heap.size + 1 + 1) 0 ⟨0, 0, 0, 0⟩
  fr : ∀ i, W.frozen? ⟨w.heap.size + 1 + 1, i, none⟩ = false
  lt : w.heap.size + 1 + 1 < W.heap.size
theorem newAt (W : World) (o : Obj) {k : Nat} (h : k = W.heap.size) : (W.alloc o).heap[k]? = some o := h ▸ (MapKept.heap_alloc W o).1
theorem Box3.start (w : World) (c : Cod) (p : Pau) : Box3 w c p (((w.alloc (.cells #[.int .i64 c.n, (Value.slice c.ga c.gs.length c.gc), (Value.slice c.xa c.xs.length c.xc), (Value.slice c.za c.zs.length c.zc)] 24)).alloc (Obj.cells #[.int .i64 p.n, .int .u64 p.x, .int .u64 p.z, .int .i64 p.ph] 27)).alloc (.cells #[.int .i64 0, .int .u64 0, .int .u64 0, .int .i64 0] 27)) :=
  ⟨(Box2.start w c p).step (below1 _ _), Cells4.of (p := ⟨0, 0, 0, 0⟩) (newAt _ _ (by simp)), fun i => free_of (newAt _ _ (by simp)), by simp⟩
theorem Box3.step {w W W' : World} {c : Cod} {p : Pau} (h : Box3 w c p W) (hb : Below W.heap.size W W') : Box3 w c p W' :=
  ⟨h.two.step hb, h.o.below h.lt hb, fun i => (hb.frozen (p := ⟨w.heap.size + 1 + 1, i, none⟩) h.lt).trans (h.fr i), Nat.lt_of_lt_of_le h.lt hb.size⟩

set_option maxRecDepth 100000 in
set_option maxHeartbeats 4000000 in
theorem logicalof_calls (c : Cod) (p : Pau) (w : World) (hc : CodAt w c) (hp : WF p) :
    Calls Try.prog 14 #[(Value.agg #[.int .i64 c.n, .slice c.ga c.gs.length c.gc, .slice c.xa c.xs.length c.xc, .slice c.za c.zs.length c.zc]), (Value.agg #[.int .i64 p.n, .int .u64 p.x, .int .u64 p.z, .int .i64 p.ph])] w fun e w' => e = .returned (.tuple #[(Value.agg #[.int .i64 (logV c p).n, .int .u64 (logV c p).x, .int .u64 (logV c p).z, .int .i64 (logV c p).ph]), .int .i64 (logE c p)]) ∧ Below w.heap.size w w' := by
  have HBX := Lib.hid (Box3.start w c p)
  have hcc := fun W (h : Below w.heap.size w W) => fault_calls c p W (hc.below h) hp
  have hbd : ∀ (w : World), (Instr.build 27 #[]).run Try.prog w = .ok (.agg #[.int .i64 0, .int .u64 0, .int .u64 0, .int .i64 0]) w := fun w => run_build w 27 _ _ (by kernel_rfl)
  by_cases A1 : err2 c p = 0
  · have hbb := fun W (h : Below w.heap.size w W) => broken_calls c p W (hc.below h) hp (good_of_err2 A1).1.gl
    have hdd := fun W (h : Below w.heap.size w W) => done_calls c p W (hc.below h) hp (good_of_err2 A1).1.xl (good_of_err2 A1).1.lz
    by_cases A2 : synd c.gs p = 0
    · have e1 : logE c p = 0 := by simp [logE, A1, A2]
      have e2 : logV c p = logic c.xs c.zs p := by simp [logV, A1, A2]
      rw [e1, e2]
      rw [A1] at hcc
      rw [A2] at hbb
      clear A1 A2 e1 e2 hc
      obtain ⟨n, ga, gc, gs, xa, xc, xs, za, zc, zs⟩ := c
      simp only at HBX hcc hbb hdd
      generalize logic xs zs p = s at hdd ⊢
      go_enter Try.func14, Try.ntmps14
      go_wp2_with (first | (go_at_call 35; refine (hcc _ HBX.out.two.box.below).mono ?_; rintro e w' ⟨rfl, hb⟩; replace HBX := Lib.hid (HBX.out.step hb); clear hb; obtain ⟨⟨⟨-, hltw, k0, k1, k2, k3⟩, ⟨p0, p1, p2, p3⟩, hltp⟩, ⟨o0, o1, o2, o3⟩, hfr, hlto⟩ := HBX.out) | (go_at_call 36; refine (hbb _ HBX.out.two.box.below).mono ?_; rintro e w' ⟨rfl, hb⟩; replace HBX := Lib.hid (HBX.out.step hb); clear hb; obtain ⟨⟨⟨-, hltw, k0, k1, k2, k3⟩, ⟨p0, p1, p2, p3⟩, hltp⟩, ⟨o0, o1, o2, o3⟩, hfr, hlto⟩ := HBX.out) | (go_at_call 39; refine (hdd _ HBX.out.two.box.below).mono ?_; rintro e w' ⟨rfl, hb⟩; replace HBX := Lib.hid (HBX.out.step hb); clear hb; obtain ⟨⟨⟨-, hltw, k0, k1, k2, k3⟩, ⟨p0, p1, p2, p3⟩, hltp⟩, ⟨o0, o1, o2, o3⟩, hfr, hlto⟩ := HBX.out))
      refine bodyPost_ret (v := .tuple #[(Value.agg #[.int .i64 s.n, .int .u64 s.x, .int .u64 s.z, .int .i64 s.ph]), .int .i64 0]) (by simp [results, Try.results14, go_sem, *]) rfl ⟨rfl, ?_⟩
      have hB := HBX.out.two.box.below
      have hh : w.heap.size ≤ w.heap.size + 1 + 1 := by omega
      exact (((hB.setCell (p := ⟨w.heap.size + 1 + 1, 0, none⟩) hh _).setCell (p := ⟨w.heap.size + 1 + 1, 1, none⟩) hh _).setCell (p := ⟨w.heap.size + 1 + 1, 2, none⟩) hh _).setCell (p := ⟨w.heap.size + 1 + 1, 3, none⟩) hh _
    · have e1 : logE c p = 2 := by simp [logE, A1, A2]
      have e2 : logV c p = ⟨0, 0, 0, 0⟩ := by simp [logV, A2]
      have hne : (((synd c.gs p : Nat) : Int) != 0) = true := by simpa using A2
      rw [e1, e2]
      rw [A1] at hcc
      clear A1 A2 e1 e2 hc hdd
      obtain ⟨n, ga, gc, gs, xa, xc, xs, za, zc, zs⟩ := c
      simp only at HBX hcc hbb hne
      generalize synd gs p = s at hbb hne ⊢
      go_enter Try.func14, Try.ntmps14
      go_wp2_with (first | (go_at_call 35; refine (hcc _ HBX.out.two.box.below).mono ?_; rintro e w' ⟨rfl, hb⟩; replace HBX := Lib.hid (HBX.out.step hb); clear hb; obtain ⟨⟨⟨-, hltw, k0, k1, k2, k3⟩, ⟨p0, p1, p2, p3⟩, hltp⟩, ⟨o0, o1, o2, o3⟩, hfr, hlto⟩ := HBX.out) | (go_at_call 36; refine (hbb _ HBX.out.two.box.below).mono ?_; rintro e w' ⟨rfl, hb⟩; replace HBX := Lib.hid (HBX.out.step hb); clear hb; obtain ⟨⟨⟨-, hltw, k0, k1, k2, k3⟩, ⟨p0, p1, p2, p3⟩, hltp⟩, ⟨o0, o1, o2, o3⟩, hfr, hlto⟩ := HBX.out))
      refine bodyPost_ret (v := .tuple #[(Value.agg #[.int .i64 0, .int .u64 0, .int .u64 0, .int .i64 0]), .int .i64 2]) (by simp [results, Try.results14, go_sem, *]) rfl ⟨rfl, ?_⟩
      have hB := HBX.out.two.box.below
      have hh : w.heap.size ≤ w.heap.size + 1 + 1 := by omega
      exact (((hB.setCell (p := ⟨w.heap.size + 1 + 1, 0, none⟩) hh _).setCell (p := ⟨w.heap.size + 1 + 1, 1, none⟩) hh _).setCell (p := ⟨w.heap.size + 1 + 1, 2, none⟩) hh _).setCell (p := ⟨w.heap.size + 1 + 1, 3, none⟩) hh _
  · have e1 : logE c p = err2 c p := by simp [logE, A1]
    have e2 : logV c p = ⟨0, 0, 0, 0⟩ := by simp [logV, A1]
    have hb := err2_i64 c p
    have hne : (err2 c p != 0) = true := by simpa using A1
    rw [e1, e2]
    clear A1 e1 e2 hc
    generalize err2 c p = r at hcc hb hne ⊢
    obtain ⟨n, ga, gc, gs, xa, xc, xs, za, zc, zs⟩ := c
    simp only at HBX hcc
    go_enter Try.func14, Try.ntmps14
    go_wp2_with (go_at_call 35; refine (hcc _ HBX.out.two.box.below).mono ?_; rintro e w' ⟨rfl, hb⟩; replace HBX := Lib.hid (HBX.out.step hb); clear hb; obtain ⟨⟨⟨-, hltw, k0, k1, k2, k3⟩, ⟨p0, p1, p2, p3⟩, hltp⟩, ⟨o0, o1, o2, o3⟩, hfr, hlto⟩ := HBX.out)
    refine bodyPost_ret (v := .tuple #[(Value.agg #[.int .i64 0, .int .u64 0, .int .u64 0, .int .i64 0]), .int .i64 r]) (by simp [results, Try.results14, go_sem, *]) rfl ⟨rfl, ?_⟩
    have hB := HBX.out.two.box.below
    have hh : w.heap.size ≤ w.heap.size + 1 + 1 := by omega
    exact (((hB.setCell (p := ⟨w.heap.size + 1 + 1, 0, none⟩) hh _).setCell (p := ⟨w.heap.size + 1 + 1, 1, none⟩) hh _).setCell (p := ⟨w.heap.size + 1 + 1, 2, none⟩) hh _).setCell (p := ⟨w.heap.size + 1 + 1, 3, none⟩) hh _

set_option maxRecDepth 100000 in
set_option maxHeartbeats 4000000 in
theorem reflogicalof_calls (c : Cod) (p : Pau) (w : World) (hc : CodAt w c) (hp : WF p) :
    Calls Try.prog 15 #[(Value.agg #[.int .i64 c.n, .slice c.ga c.gs.length c.gc, .slice c.xa c.xs.length c.xc, .slice c.za c.zs.length c.zc]), (Value.agg #[.int .i64 p.n, .int .u64 p.x, .int .u64 p.z, .int .i64 p.ph])] w fun e w' => e = .returned (.tuple #[(Value.agg #[.int .i64 (logV c p).n, .int .u64 (logV c p).x, .int .u64 (logV c p).z, .int .i64 (logV c p).ph]), .int .i64 (logE c p)]) ∧ Below w.heap.size w w' := by
  have HBX := Lib.hid (Box3.start w c p)
  have hcc := fun W (h : Below w.heap.size w W) => asked_calls c p W (hc.below h) hp
  have hbd : ∀ (w : World), (Instr.build 27 #[]).run Try.prog w = .ok (.agg #[.int .i64 0, .int .u64 0, .int .u64 0, .int .i64 0]) w := fun w => run_build w 27 _ _ (by kernel_rfl)
  by_cases A1 : err2 c p = 0
  · have hbb := fun W (h : Below w.heap.size w W) => refbroken_calls c p W (hc.below h) hp (good_of_err2 A1).1.gl
    have hdd := fun W (h : Below w.heap.size w W) => logical_calls c p W (hc.below h) hp (good_of_err2 A1).1.xl (good_of_err2 A1).1.lz
    by_cases A2 : synd c.gs p = 0
    · have e1 : logE c p = 0 := by simp [logE, A1, A2]
      have e2 : logV c p = logic c.xs c.zs p := by simp [logV, A1, A2]
      rw [e1, e2]
      rw [A1] at hcc
      rw [A2] at hbb
      clear A1 A2 e1 e2 hc
      obtain ⟨n, ga, gc, gs, xa, xc, xs, za, zc, zs⟩ := c
      simp only at HBX hcc hbb hdd
      generalize logic xs zs p = s at hdd ⊢
      go_enter Try.func15, Try.ntmps15
      go_wp2_with (first | (go_at_call 37; refine (hcc _ HBX.out.two.box.below).mono ?_; rintro e w' ⟨rfl, hb⟩; replace HBX := Lib.hid (HBX.out.step hb); clear hb; obtain ⟨⟨⟨-, hltw, k0, k1, k2, k3⟩, ⟨p0, p1, p2, p3⟩, hltp⟩, ⟨o0, o1, o2, o3⟩, hfr, hlto⟩ := HBX.out) | (go_at_call 38; refine (hbb _ HBX.out.two.box.below).mono ?_; rintro e w' ⟨rfl, hb⟩; replace HBX := Lib.hid (HBX.out.step hb); clear hb; obtain ⟨⟨⟨-, hltw, k0, k1, k2, k3⟩, ⟨p0, p1, p2, p3⟩, hltp⟩, ⟨o0, o1, o2, o3⟩, hfr, hlto⟩ := HBX.out) | (go_at_call 40; refine (hdd _ HBX.out.two.box.below).mono ?_; rintro e w' ⟨rfl, hb⟩; replace HBX := Lib.hid (HBX.out.step hb); clear hb; obtain ⟨⟨⟨-, hltw, k0, k1, k2, k3⟩, ⟨p0, p1, p2, p3⟩, hltp⟩, ⟨o0, o1, o2, o3⟩, hfr, hlto⟩ := HBX.out))
      refine bodyPost_ret (v := .tuple #[(Value.agg #[.int .i64 s.n, .int .u64 s.x, .int .u64 s.z, .int .i64 s.ph]), .int .i64 0]) (by simp [results, Try.results15, go_sem, *]) rfl ⟨rfl, ?_⟩
      have hB := HBX.out.two.box.below
      have hh : w.heap.size ≤ w.heap.size + 1 + 1 := by omega
      exact (((hB.setCell (p := ⟨w.heap.size + 1 + 1, 0, none⟩) hh _).setCell (p := ⟨w.heap.size + 1 + 1, 1, none⟩) hh _).setCell (p := ⟨w.heap.size + 1 + 1, 2, none⟩) hh _).setCell (p := ⟨w.heap.size + 1 + 1, 3, none⟩) hh _
    · have e1 : logE c p = 2 := by simp [logE, A1, A2]
      have e2 : logV c p = ⟨0, 0, 0, 0⟩ := by simp [logV, A2]
      have hne : (((synd c.gs p : Nat) : Int) != 0) = true := by simpa using A2
      rw [e1, e2]
      rw [A1] at hcc
      clear A1 A2 e1 e2 hc hdd
      obtain ⟨n, ga, gc, gs, xa, xc, xs, za, zc, zs⟩ := c
      simp only at HBX hcc hbb hne
      generalize synd gs p = s at hbb hne ⊢
      go_enter Try.func15, Try.ntmps15
      go_wp2_with (first | (go_at_call 37; refine (hcc _ HBX.out.two.box.below).mono ?_; rintro e w' ⟨rfl, hb⟩; replace HBX := Lib.hid (HBX.out.step hb); clear hb; obtain ⟨⟨⟨-, hltw, k0, k1, k2, k3⟩, ⟨p0, p1, p2, p3⟩, hltp⟩, ⟨o0, o1, o2, o3⟩, hfr, hlto⟩ := HBX.out) | (go_at_call 38; refine (hbb _ HBX.out.two.box.below).mono ?_; rintro e w' ⟨rfl, hb⟩; replace HBX := Lib.hid (HBX.out.step hb); clear hb; obtain ⟨⟨⟨-, hltw, k0, k1, k2, k3⟩, ⟨p0, p1, p2, p3⟩, hltp⟩, ⟨o0, o1, o2, o3⟩, hfr, hlto⟩ := HBX.out))
      refine bodyPost_ret (v := .tuple #[(Value.agg #[.int .i64 0, .int .u64 0, .int .u64 0, .int .i64 0]), .int .i64 2]) (by simp [results, Try.results15, go_sem, *]) rfl ⟨rfl, ?_⟩
      have hB := HBX.out.two.box.below
      have hh : w.heap.size ≤ w.heap.size + 1 + 1 := by omega
      exact (((hB.setCell (p := ⟨w.heap.size + 1 + 1, 0, none⟩) hh _).setCell (p := ⟨w.heap.size + 1 + 1, 1, none⟩) hh _).setCell (p := ⟨w.heap.size + 1 + 1, 2, none⟩) hh _).setCell (p := ⟨w.heap.size + 1 + 1, 3, none⟩) hh _
  · have e1 : logE c p = err2 c p := by simp [logE, A1]
    have e2 : logV c p = ⟨0, 0, 0, 0⟩ := by simp [logV, A1]
    have hb := err2_i64 c p
    have hne : (err2 c p != 0) = true := by simpa using A1
    rw [e1, e2]
    clear A1 e1 e2 hc
    generalize err2 c p = r at hcc hb hne ⊢
    obtain ⟨n, ga, gc, gs, xa, xc, xs, za, zc, zs⟩ := c
    simp only at HBX hcc
    go_enter Try.func15, Try.ntmps15
    go_wp2_with (go_at_call 37; refine (hcc _ HBX.out.two.box.below).mono ?_; rintro e w' ⟨rfl, hb⟩; replace HBX := Lib.hid (HBX.out.step hb); clear hb; obtain ⟨⟨⟨-, hltw, k0, k1, k2, k3⟩, ⟨p0, p1, p2, p3⟩, hltp⟩, ⟨o0, o1, o2, o3⟩, hfr, hlto⟩ := HBX.out)
    refine bodyPost_ret (v := .tuple #[(Value.agg #[.int .i64 0, .int .u64 0, .int .u64 0, .int .i64 0]), .int .i64 r]) (by simp [results, Try.results15, go_sem, *]) rfl ⟨rfl, ?_⟩
    have hB := HBX.out.two.box.below
    have hh : w.heap.size ≤ w.heap.size + 1 + 1 := by omega
    exact (((hB.setCell (p := ⟨w.heap.size + 1 + 1, 0, none⟩) hh _).setCell (p := ⟨w.heap.size + 1 + 1, 1, none⟩) hh _).setCell (p := ⟨w.heap.size + 1 + 1, 2, none⟩) hh _).setCell (p := ⟨w.heap.size + 1 + 1, 3, none⟩) hh _

end Go.Proofs.Ytfnmembjgclhoaa.CD
