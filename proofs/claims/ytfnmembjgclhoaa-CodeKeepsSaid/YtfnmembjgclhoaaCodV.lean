/- Decode: walked. -/
import Derived.Test.YtfnmembjgclhoaaCodU
namespace Go.Proofs.Ytfnmembjgclhoaa.CD
open Go Go.RowKit
set_option linter.unusedVariables false
set_option linter.unusedSimpArgs false
open B (pcs ofB)

theorem put4 {B : Nat} {w W : World} (h : Below B w W) {b : Nat} (hb : B ≤ b) (v0 v1 v2 v3 : Value) : Below B w ((((W.setCell ⟨b, 0, none⟩ v0).setCell ⟨b, 1, none⟩ v1).setCell ⟨b, 2, none⟩ v2).setCell ⟨b, 3, none⟩ v3) :=
  (((h.setCell (p := ⟨b, 0, none⟩) hb v0).setCell (p := ⟨b, 1, none⟩) hb v1).setCell (p := ⟨b, 2, none⟩) hb v2).setCell (p := ⟨b, 3, none⟩) hb v3
/-- A code's box, a syndrome's, the answer's cell. -/
structure DecSt (w : World) (c : Cod) (s : Nat) (W : World) : Prop where
  box : BoxSt w c W
  s : W.cell? ⟨w.heap.size + 1, 0, none⟩ = some (.int .u64 s)
  lts : w.heap.size + 1 < W.heap.size
  o : Cells4 W (w.heap.size + 1 + 1) 0 ⟨0, 0, 0, 0⟩
  fr : ∀ i, W.frozen? ⟨w.heap.size + 1 + 1, i, none⟩ = false
  lto : w.heap.size + 1 + 1 < W.heap.size
theorem DecSt.start (w : World) (c : Cod) (s : Nat) : DecSt w c s (((w.alloc (.cells #[.int .i64 c.n, (Value.slice c.ga c.gs.length c.gc), (Value.slice c.xa c.xs.length c.xc), (Value.slice c.za c.zs.length c.zc)] 24)).alloc (.cells #[.int .u64 s] 25)).alloc (.cells #[.int .i64 0, .int .u64 0, .int .u64 0, .int .i64 0] 27)) :=
  ⟨((BoxSt.start w c).step (below1 _ _)).step (below1 _ _), ((below1 _ _).cell (p := ⟨w.heap.size + 1, 0, none⟩) (by simp)).trans (cell_of (newAt _ _ (by simp)) rfl), by simp, Cells4.of (p := ⟨0, 0, 0, 0⟩) (newAt _ _ (by simp)), fun i => free_of (newAt _ _ (by simp)), by simp⟩
theorem DecSt.step {w W W' : World} {c : Cod} {s : Nat} (h : DecSt w c s W) (hb : Below W.heap.size W W') : DecSt w c s W' :=
  ⟨h.box.step hb, (hb.cell (p := ⟨w.heap.size + 1, 0, none⟩) h.lts).trans h.s, Nat.lt_of_lt_of_le h.lts hb.size, h.o.below h.lto hb, fun i => (hb.frozen (p := ⟨w.heap.size + 1 + 1, i, none⟩) h.lto).trans (h.fr i), Nat.lt_of_lt_of_le h.lto hb.size⟩

set_option maxRecDepth 100000 in
set_option maxHeartbeats 4000000 in
theorem decode_calls (c : Cod) (s : Nat) (w : World) (hc : CodAt w c) (hs : U s) :
    Calls Try.prog 18 #[(Value.agg #[.int .i64 c.n, .slice c.ga c.gs.length c.gc, .slice c.xa c.xs.length c.xc, .slice c.za c.zs.length c.zc]), .int .u64 s] w fun e w' => e = .returned (.tuple #[(Value.agg #[.int .i64 (decV c s).n, .int .u64 (decV c s).x, .int .u64 (decV c s).z, .int .i64 (decV c s).ph]), .int .i64 (decE c s)]) ∧ Below w.heap.size w w' := by
  have HBX := Lib.hid (DecSt.start w c s)
  have hcc := fun W (h : Below w.heap.size w W) => check_c c W (hc.below h)
  have hn := hc.n
  have hbz : ∀ (w : World), (Instr.build 27 #[]).run Try.prog w = .ok (.agg #[.int .i64 0, .int .u64 0, .int .u64 0, .int .i64 0]) w := fun w => run_build w 27 _ _ (by kernel_rfl)
  have hmf : ∀ (fn : Fn) (first cap : Array Value) (w : World), (Instr.makeFunc fn first cap).run Try.prog w = .ok (.func fn first cap) w := fun _ _ _ _ => rfl
  by_cases A1 : Good c
  · have e1 : errC c = 0 := by simp [errC, A1]
    rw [e1] at hcc
    by_cases A2 : c.n ≤ 8
    · have hgl : (c.gs.length : Int) ≤ 8 := by have h1 := A1.len; omega
      by_cases A3 : s < 2 ^ c.gs.length
      · have hnn : ((c.n.toNat : Nat) : Int) = c.n := by have := A1.n1; omega
        have hsd0 := fun W (h : DecSt w c s W) => search_shows w.heap.size (w.heap.size + 1) (TS c s) c.n.toNat (nn c) (by omega) rfl W (fun W' x z hb hx hz => by
          have hW' := h.step hb
          have h1 := shows_calls c ⟨c.n, x, z, 0⟩ s w.heap.size (w.heap.size + 1) W' A1 (hc.below hW'.box.below) (pau_wf hn A2 hx hz) hW'.box.boxed hW'.s
          rw [show ((c.n.toNat : Nat) : Int) = c.n by have := A1.n1; omega]
          exact h1)
        have e2 : decE c s = 0 := by simp [decE, A1, A2, A3]
        have HDV := Lib.hid (fun d => decV_eq e2 (d := d))
        have hn1 := A1.n1
        have hdz := div_zero A3
        rw [e2]
        simp only [hnn] at hsd0
        have hsd := fun W (h : DecSt w c s W) => (hsd0 W h).mono (fun e w' h => by simp only [Searched, hnn] at h; exact h)
        clear hsd0
        unfold IsDec at HDV
        clear e1 e2 hc hnn A1 A3
        generalize decV c s = dv at HDV ⊢
        generalize TS c s = T at hsd HDV
        generalize nn c = N at hsd HDV
        obtain ⟨n, ga, gc, gs, xa, xc, xs, za, zc, zs⟩ := c
        simp only at HBX hcc hsd hn A2 hn1 hgl hdz HDV
        go_enter Try.func18, Try.ntmps18
        go_wp2_with (go_at_call 10; refine (hcc _ HBX.out.box.below).mono ?_; rintro e w' ⟨rfl, hb⟩; replace HBX := Lib.hid (HBX.out.step hb); clear hb; obtain ⟨⟨-, hltw, k0, k1, k2, k3⟩, s0, hlts, ⟨o0, o1, o2, o3⟩, hfr, hlto⟩ := HBX.out)
        go_at_call 41
        refine (hsd _ HBX.out).mono ?_
        rintro e w2 ⟨⟨x, z, hF, rfl⟩ | ⟨hN, rfl⟩, hb⟩
        · have HF : Hid (dv = ⟨n, x, z, 0⟩) := Lib.hid (HDV.out _ (.inl ⟨x, z, hF, rfl⟩))
          replace HBX := Lib.hid (HBX.out.step hb)
          clear hF hb k0 k1 k2 k3 s0 o0 o1 o2 o3 hfr hlto
          obtain ⟨⟨-, hltw, k0, k1, k2, k3⟩, s0, hlts, ⟨o0, o1, o2, o3⟩, hfr, hlto⟩ := HBX.out
          go_wp2_with fail
          refine bodyPost_ret (v := .tuple #[(Value.agg #[.int .i64 n, .int .u64 x, .int .u64 z, .int .i64 0]), .int .i64 0]) (by simp [results, Try.results18, go_sem, *]) rfl ⟨by rw [HF.out], ?_⟩
          refine (put4 HBX.out.box.below (show w.heap.size ≤ w.heap.size + 1 + 1 by omega) _ _ _ _).alloc ?_ _
          have h9 := HBX.out.box.below.size
          simpa using h9
        · have HF : Hid (dv = ⟨0, 0, 0, 0⟩) := Lib.hid (HDV.out _ (.inr ⟨hN, rfl⟩))
          replace HBX := Lib.hid (HBX.out.step hb)
          clear hN hb k0 k1 k2 k3 s0 o0 o1 o2 o3 hfr hlto
          obtain ⟨⟨-, hltw, k0, k1, k2, k3⟩, s0, hlts, ⟨o0, o1, o2, o3⟩, hfr, hlto⟩ := HBX.out
          go_wp2_with fail
          refine bodyPost_ret (v := .tuple #[(Value.agg #[.int .i64 0, .int .u64 0, .int .u64 0, .int .i64 0]), .int .i64 0]) (by simp [results, Try.results18, go_sem, *]) rfl ⟨by rw [HF.out]; rfl, ?_⟩
          refine (put4 HBX.out.box.below (show w.heap.size ≤ w.heap.size + 1 + 1 by omega) _ _ _ _).alloc ?_ _
          have h9 := HBX.out.box.below.size
          simpa using h9
      · have e2 : decE c s = 2 := by simp [decE, A1, A2, A3]
        have hdz := div_pos A3
        have e3 : decV c s = ⟨0, 0, 0, 0⟩ := by rw [decV, if_neg (by rw [e2]; omega)]
        rw [e2, e3]
        clear e1 e2 e3 hc A1
        obtain ⟨n, ga, gc, gs, xa, xc, xs, za, zc, zs⟩ := c
        simp only at HBX hcc hn A2 hgl hdz
        go_enter Try.func18, Try.ntmps18
        go_wp2_with (go_at_call 10; refine (hcc _ HBX.out.box.below).mono ?_; rintro e w' ⟨rfl, hb⟩; replace HBX := Lib.hid (HBX.out.step hb); clear hb; obtain ⟨⟨-, hltw, k0, k1, k2, k3⟩, s0, hlts, ⟨o0, o1, o2, o3⟩, hfr, hlto⟩ := HBX.out)
        refine bodyPost_ret (v := .tuple #[(Value.agg #[.int .i64 0, .int .u64 0, .int .u64 0, .int .i64 0]), .int .i64 2]) (by simp [results, Try.results18, go_sem, *]) rfl ⟨rfl, ?_⟩
        have hB := HBX.out.box.below
        have hh : w.heap.size ≤ w.heap.size + 1 + 1 := by omega
        exact (((hB.setCell (p := ⟨w.heap.size + 1 + 1, 0, none⟩) hh _).setCell (p := ⟨w.heap.size + 1 + 1, 1, none⟩) hh _).setCell (p := ⟨w.heap.size + 1 + 1, 2, none⟩) hh _).setCell (p := ⟨w.heap.size + 1 + 1, 3, none⟩) hh _
    · have e2 : decE c s = 1 := by simp [decE, A1, A2]
      have e3 : decV c s = ⟨0, 0, 0, 0⟩ := by rw [decV, if_neg (by rw [e2]; omega)]
      rw [e2, e3]
      clear e1 e2 e3 hc A1
      obtain ⟨n, ga, gc, gs, xa, xc, xs, za, zc, zs⟩ := c
      simp only at HBX hcc hn A2
      go_enter Try.func18, Try.ntmps18
      go_wp2_with (go_at_call 10; refine (hcc _ HBX.out.box.below).mono ?_; rintro e w' ⟨rfl, hb⟩; replace HBX := Lib.hid (HBX.out.step hb); clear hb; obtain ⟨⟨-, hltw, k0, k1, k2, k3⟩, s0, hlts, ⟨o0, o1, o2, o3⟩, hfr, hlto⟩ := HBX.out)
      refine bodyPost_ret (v := .tuple #[(Value.agg #[.int .i64 0, .int .u64 0, .int .u64 0, .int .i64 0]), .int .i64 1]) (by simp [results, Try.results18, go_sem, *]) rfl ⟨rfl, ?_⟩
      have hB := HBX.out.box.below
      have hh : w.heap.size ≤ w.heap.size + 1 + 1 := by omega
      exact (((hB.setCell (p := ⟨w.heap.size + 1 + 1, 0, none⟩) hh _).setCell (p := ⟨w.heap.size + 1 + 1, 1, none⟩) hh _).setCell (p := ⟨w.heap.size + 1 + 1, 2, none⟩) hh _).setCell (p := ⟨w.heap.size + 1 + 1, 3, none⟩) hh _
  · have e1 : errC c = 230 := by simp [errC, A1]
    have e2 : decE c s = 230 := by simp [decE, A1]
    rw [e1] at hcc
    have e3 : decV c s = ⟨0, 0, 0, 0⟩ := by rw [decV, if_neg (by rw [e2]; omega)]
    rw [e2, e3]
    clear e1 e2 e3 hc A1
    obtain ⟨n, ga, gc, gs, xa, xc, xs, za, zc, zs⟩ := c
    simp only at HBX hcc hn
    go_enter Try.func18, Try.ntmps18
    go_wp2_with (go_at_call 10; refine (hcc _ HBX.out.box.below).mono ?_; rintro e w' ⟨rfl, hb⟩; replace HBX := Lib.hid (HBX.out.step hb); clear hb; obtain ⟨⟨-, hltw, k0, k1, k2, k3⟩, s0, hlts, ⟨o0, o1, o2, o3⟩, hfr, hlto⟩ := HBX.out)
    refine bodyPost_ret (v := .tuple #[(Value.agg #[.int .i64 0, .int .u64 0, .int .u64 0, .int .i64 0]), .int .i64 230]) (by simp [results, Try.results18, go_sem, *]) rfl ⟨rfl, ?_⟩
    have hB := HBX.out.box.below
    have hh : w.heap.size ≤ w.heap.size + 1 + 1 := by omega
    exact (((hB.setCell (p := ⟨w.heap.size + 1 + 1, 0, none⟩) hh _).setCell (p := ⟨w.heap.size + 1 + 1, 1, none⟩) hh _).setCell (p := ⟨w.heap.size + 1 + 1, 2, none⟩) hh _).setCell (p := ⟨w.heap.size + 1 + 1, 3, none⟩) hh _

end Go.Proofs.Ytfnmembjgclhoaa.CD
