/- CodeDecodes: walked. -/
import Derived.Test.YtfnmembjgclhoaaCodAG
namespace Go.Proofs.Ytfnmembjgclhoaa.CD
open Go Go.RowKit
set_option linter.unusedVariables false
set_option linter.unusedSimpArgs false

set_option maxRecDepth 100000 in
set_option maxHeartbeats 8000000 in
theorem decodes_walk (c : Cod) (s : Nat) (w : World) (hc : CodAt w c) (hs : U s) : Calls Try.prog 4 #[(Value.agg #[.int .i64 c.n, .slice c.ga c.gs.length c.gc, .slice c.xa c.xs.length c.xc, .slice c.za c.zs.length c.zc]), .int .u64 s] w fun e w' => e = .returned (.bool true) ∧ Below w.heap.size w w' := by
  have HBX := Lib.hid (BoxSt.start w c)
  have h1 := fun W (h : Below w.heap.size w W) => distance_calls c W (hc.below h)
  have h2 := fun W (h : Below w.heap.size w W) => refdistance_calls c W (hc.below h)
  have h3 := fun W (h : Below w.heap.size w W) => decode_calls c s W (hc.below h) hs
  have h4 := fun W (h : Below w.heap.size w W) => refdecode_calls c s W (hc.below h) hs
  clear hc
  generalize distV c = dv at h1 h2
  generalize distE c = de at h1 h2
  generalize decV c s = q at h3 h4
  generalize decE c s = qe at h3 h4
  obtain ⟨n, ga, gc, gs, xa, xc, xs, za, zc, zs⟩ := c
  simp only at HBX h1 h2 h3 h4
  go_enter Try.func4, Try.ntmps4
  go_wp2_with fail
  go_at_call 9
  refine (alive_calls _).mono ?_
  rintro e w1 ⟨rfl, hb⟩
  replace HBX := Lib.hid (HBX.out.step hb)
  clear hb
  obtain ⟨-, hlt, k0, k1, k2, k3⟩ := HBX.out
  go_wp2_with fail
  go_at_call 16
  refine (h1 _ HBX.out.below).mono ?_
  rintro e w2 ⟨rfl, hb⟩
  replace HBX := Lib.hid (HBX.out.step hb)
  clear hb k0 k1 k2 k3 hlt
  obtain ⟨-, hlt, k0, k1, k2, k3⟩ := HBX.out
  go_wp2_with fail
  go_at_call 17
  refine (h2 _ HBX.out.below).mono ?_
  rintro e w3 ⟨rfl, hb⟩
  replace HBX := Lib.hid (HBX.out.step hb)
  clear hb k0 k1 k2 k3 hlt
  obtain ⟨-, hlt, k0, k1, k2, k3⟩ := HBX.out
  go_wp2_with fail
  go_at_call 18
  refine (h3 _ HBX.out.below).mono ?_
  rintro e w4 ⟨rfl, hb⟩
  replace HBX := Lib.hid ((HBX.out.step hb).step (below1 w4 (Obj.cells #[.int .i64 q.n, .int .u64 q.x, .int .u64 q.z, .int .i64 q.ph] 27)))
  clear hb k0 k1 k2 k3 hlt
  obtain ⟨-, hlt, k0, k1, k2, k3⟩ := HBX.out
  have HP : Hid (Cells4 (w4.alloc (Obj.cells #[.int .i64 q.n, .int .u64 q.x, .int .u64 q.z, .int .i64 q.ph] 27)) w4.heap.size 0 q) := Lib.hid (Cells4.of (newAt _ _ rfl))
  go_wp2_with fail
  go_at_call 19
  refine (h4 _ HBX.out.below).mono ?_
  rintro e w5 ⟨rfl, hb⟩
  replace HBX := Lib.hid (HBX.out.step hb)
  have HP2 := HP.out.below (by simp) hb
  have hs5 : w4.heap.size < w5.heap.size := by have h9 := hb.size; simp at h9; omega
  clear hb k0 k1 k2 k3 hlt
  obtain ⟨p0, p1, p2, p3⟩ := HP2
  go_wp2_with fail
  go_ret
  exact ⟨by simp, HBX.out.below.alloc HBX.out.below.size _⟩
end Go.Proofs.Ytfnmembjgclhoaa.CD
