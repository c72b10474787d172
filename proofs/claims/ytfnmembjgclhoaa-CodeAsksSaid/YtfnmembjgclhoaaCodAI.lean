/- CodeAsks: walked. -/
import Derived.Test.YtfnmembjgclhoaaCodAG
import Derived.Deep.RegionHeld3
namespace Go.Proofs.Ytfnmembjgclhoaa.CD
open Go Go.RowKit
set_option linter.unusedVariables false
set_option linter.unusedSimpArgs false

set_option maxRecDepth 100000 in
set_option maxHeartbeats 8000000 in
theorem asks_walk (c : Cod) (p : Pau) (w : World) (hc : CodAt w c) (hp : WF p) : Calls Try.prog 3 #[(Value.agg #[.int .i64 c.n, .slice c.ga c.gs.length c.gc, .slice c.xa c.xs.length c.xc, .slice c.za c.zs.length c.zc]), (Value.agg #[.int .i64 p.n, .int .u64 p.x, .int .u64 p.z, .int .i64 p.ph])] w fun e w' => e = .returned (.bool true) ∧ Below w.heap.size w w' := by
  have HBX := Lib.hid (Box2.start w c p)
  have h1 := fun W (h : Below w.heap.size w W) => check_c c W (hc.below h)
  have h2 := fun W (h : Below w.heap.size w W) => refcheck_c c W (hc.below h)
  have h3 := fun W (h : Below w.heap.size w W) => syndrome_calls c p W (hc.below h) hp
  have h4 := fun W (h : Below w.heap.size w W) => refsyndrome_calls c p W (hc.below h) hp
  have h5 := fun W (h : Below w.heap.size w W) => logicalof_calls c p W (hc.below h) hp
  have h6 := fun W (h : Below w.heap.size w W) => reflogicalof_calls c p W (hc.below h) hp
  clear hc hp
  generalize errC c = ec at h1 h2
  generalize synV c p = sv at h3 h4
  generalize err2 c p = e2 at h3 h4
  generalize logE c p = le at h5 h6
  generalize logV c p = q at h5 h6
  obtain ⟨n, ga, gc, gs, xa, xc, xs, za, zc, zs⟩ := c
  simp only at HBX h1 h2 h3 h4 h5 h6
  go_enter Try.func3, Try.ntmps3
  go_wp2_with fail
  go_at_call 9
  refine (alive_calls _).mono ?_
  rintro e w1 ⟨rfl, hb⟩
  replace HBX := Lib.hid (HBX.out.step hb)
  clear hb
  obtain ⟨⟨-, hlt, k0, k1, k2, k3⟩, ⟨p0, p1, p2, p3⟩, hlt2⟩ := HBX.out
  go_wp2_with fail
  go_region_held3 (fun W => Hid (Box2 w ⟨n, ga, gc, gs, xa, xc, xs, za, zc, zs⟩ p W) ∧ W.cell? ⟨w.heap.size, 0, none⟩ = some (.int .i64 n) ∧ W.cell? ⟨w.heap.size, 1, none⟩ = some (Value.slice ga gs.length gc) ∧ W.cell? ⟨w.heap.size, 2, none⟩ = some (Value.slice xa xs.length xc) ∧ W.cell? ⟨w.heap.size, 3, none⟩ = some (Value.slice za zs.length zc)) (first | exact ⟨HBY, y0, y1, y2, y3⟩ | exact ⟨Lib.hid (HBX.out.step ((Below.refl _ _).drew)), k0, k1, k2, k3⟩) (first | (go_at_call 10; have HH := ‹Hid (Box2 w _ p _) ∧ _›; refine (h1 _ HH.1.out.box.below).mono ?_; rintro e w' ⟨rfl, hb⟩; have HBY := Lib.hid (HH.1.out.step hb); obtain ⟨⟨-, -, y0, y1, y2, y3⟩, -, -⟩ := HBY.out) | (go_at_call 11; have HH := ‹Hid (Box2 w _ p _) ∧ _›; refine (h2 _ HH.1.out.box.below).mono ?_; rintro e w' ⟨rfl, hb⟩; have HBY := Lib.hid (HH.1.out.step hb); obtain ⟨⟨-, -, y0, y1, y2, y3⟩, -, -⟩ := HBY.out))
  replace HBX := Lib.hid HBY.out
  clear k0 k1 k2 k3 p0 p1 p2 p3 hlt hlt2 y0 y1 y2 y3
  obtain ⟨⟨-, hlt, k0, k1, k2, k3⟩, ⟨p0, p1, p2, p3⟩, hlt2⟩ := HBX.out
  go_wp2_with fail
  go_at_call 12
  refine (h3 _ HBX.out.box.below).mono ?_
  rintro e w3 ⟨rfl, hb⟩
  replace HBX := Lib.hid (HBX.out.step hb)
  clear hb k0 k1 k2 k3 p0 p1 p2 p3 hlt hlt2
  obtain ⟨⟨-, hlt, k0, k1, k2, k3⟩, ⟨p0, p1, p2, p3⟩, hlt2⟩ := HBX.out
  go_wp2_with fail
  go_at_call 13
  refine (h4 _ HBX.out.box.below).mono ?_
  rintro e w4 ⟨rfl, hb⟩
  replace HBX := Lib.hid (HBX.out.step hb)
  clear hb k0 k1 k2 k3 p0 p1 p2 p3 hlt hlt2
  obtain ⟨⟨-, hlt, k0, k1, k2, k3⟩, ⟨p0, p1, p2, p3⟩, hlt2⟩ := HBX.out
  go_wp2_with fail
  go_at_call 14
  refine (h5 _ HBX.out.box.below).mono ?_
  rintro e w5 ⟨rfl, hb⟩
  replace HBX := Lib.hid ((HBX.out.step hb).step (below1 w5 (Obj.cells #[.int .i64 q.n, .int .u64 q.x, .int .u64 q.z, .int .i64 q.ph] 27)))
  clear hb k0 k1 k2 k3 p0 p1 p2 p3 hlt hlt2
  obtain ⟨⟨-, hlt, k0, k1, k2, k3⟩, ⟨p0, p1, p2, p3⟩, hlt2⟩ := HBX.out
  have HP : Hid (Cells4 (w5.alloc (Obj.cells #[.int .i64 q.n, .int .u64 q.x, .int .u64 q.z, .int .i64 q.ph] 27)) w5.heap.size 0 q) := Lib.hid (Cells4.of (newAt _ _ rfl))
  go_wp2_with fail
  go_at_call 15
  refine (h6 _ HBX.out.box.below).mono ?_
  rintro e w6 ⟨rfl, hb⟩
  replace HBX := Lib.hid (HBX.out.step hb)
  have HP2 := HP.out.below (by simp) hb
  have hs5 : w5.heap.size < w6.heap.size := by have h9 := hb.size; simp at h9; omega
  clear hb k0 k1 k2 k3 p0 p1 p2 p3 hlt hlt2
  obtain ⟨r0, r1, r2, r3⟩ := HP2
  go_wp2_with fail
  go_ret
  exact ⟨by simp, HBX.out.box.below.alloc HBX.out.box.below.size _⟩
end Go.Proofs.Ytfnmembjgclhoaa.CD
