/- CodeCorrects: walked. -/
import Derived.Test.YtfnmembjgclhoaaCodBC
import Derived.Test.YtfnmembjgclhoaaCodAG
namespace Go.Proofs.Ytfnmembjgclhoaa.CD
open Go Go.RowKit
set_option linter.unusedVariables false
set_option linter.unusedSimpArgs false
open B (pcs ofB)

theorem two_le {n : Int} (h0 : 0 ≤ n) (h1 : n ≤ 64) {x : Nat} (hx : x < 2 ^ n.toNat) : U x := Nat.lt_of_lt_of_le hx (Nat.pow_le_pow_right (by decide) (by omega))
theorem Ok.wf {p : Pau} (h : Ok p) : WF p := ⟨two_le h.n0 h.n1 h.x, two_le h.n0 h.n1 h.z, by have a := h.n0; have b := h.n1; unfold I64; omega, by have a := h.p0; have b := h.p1; unfold I64; omega⟩
theorem err2_of {c : Cod} {p : Pau} (hg : Good c) (ho : Ok p) (hn : p.n = c.n) : err2 c p = 0 := by unfold err2; rw [if_pos hg, if_pos ho, if_pos hn]
theorem synV_of {c : Cod} {p : Pau} (h : err2 c p = 0) : synV c p = synd c.gs p := by unfold synV; rw [if_pos h]
theorem logE_of {c : Cod} {p : Pau} (h : err2 c p = 0) (hs : synd c.gs p = 0) : logE c p = 0 := by unfold logE; rw [if_pos h, if_pos hs]
theorem logV_of {c : Cod} {p : Pau} (h : err2 c p = 0) (hs : synd c.gs p = 0) : logV c p = logic c.xs c.zs p := by unfold logV; rw [if_pos ⟨h, hs⟩]

set_option maxRecDepth 100000 in
set_option maxHeartbeats 8000000 in
theorem corrects_in (c : Cod) (p : Pau) (w : World) (hc : CodAt w c) (hp : WF p) (he : err2 c p = 0) (hd : distE c = 0) : Calls Try.prog 8 #[(Value.agg #[.int .i64 c.n, .slice c.ga c.gs.length c.gc, .slice c.xa c.xs.length c.xc, .slice c.za c.zs.length c.zc]), (Value.agg #[.int .i64 p.n, .int .u64 p.x, .int .u64 p.z, .int .i64 p.ph])] w fun e w' => e = .returned (.bool true) ∧ Below w.heap.size w w' := by
  obtain ⟨hg, ho, hn⟩ := good_of_err2 he
  have h8 : c.n ≤ 8 := by
    unfold distE at hd
    rw [if_pos hg] at hd
    split at hd
    · assumption
    · cases hd
  obtain ⟨hde, x, z, hdv, hoq, hsq, hwt⟩ := dec_first he h8
  have heq : err2 c ⟨c.n, x, z, 0⟩ = 0 := err2_of hg hoq rfl
  have hU : U (synd c.gs p) := ofB_U _ hg.gl
  have h12p := fun W (h : Below w.heap.size w W) => syndrome_calls c p W (hc.below h) hp
  have h16 := fun W (h : Below w.heap.size w W) => distance_calls c W (hc.below h)
  have h18 := fun W (h : Below w.heap.size w W) => decode_calls c (synd c.gs p) W (hc.below h) hU
  have h12q := fun W (h : Below w.heap.size w W) => syndrome_calls c ⟨c.n, x, z, 0⟩ W (hc.below h) hoq.wf
  have h27p := fun W => weight_calls p hp ho W
  have h27q := fun W => weight_calls ⟨c.n, x, z, 0⟩ hoq.wf hoq W
  have hor : Ok (mulP ⟨c.n, x, z, 0⟩ p) := mulP_ok hoq ho hn.symm
  have h25 := fun W => mul_ok ⟨c.n, x, z, 0⟩ p hoq.wf hp hoq ho hn.symm W
  have h14 := fun W (h : Below w.heap.size w W) => logicalof_calls c (mulP ⟨c.n, x, z, 0⟩ p) W (hc.below h) hor.wf
  have her : err2 c (mulP ⟨c.n, x, z, 0⟩ p) = 0 := err2_of hg hor rfl
  have hsr : synd c.gs (mulP ⟨c.n, x, z, 0⟩ p) = 0 := by rw [synd_mul, hsq, Nat.xor_self]
  have hwr := wt_mul ⟨c.n, x, z, 0⟩ p
  have hlr : ((wt x z + wt p.x p.z : Nat) : Int) < distV c → logic c.xs c.zs (mulP ⟨c.n, x, z, 0⟩ p) = ⟨c.xs.length, 0, 0, 0⟩ := fun h => by
    have h1 := dist_none hg h8 hor rfl hsr (by simp only at hwr; omega)
    unfold logic at h1 ⊢
    simp only at h1
    rw [h1.1, h1.2]
  rw [synV_of he, he] at h12p
  rw [hd] at h16
  rw [hde, hdv] at h18
  rw [synV_of heq, heq, hsq] at h12q
  rw [logE_of her hsr, logV_of her hsr] at h14
  have hw64 : wt p.x p.z ≤ 64 := pop_le _
  have HC := Lib.hid hc
  have HBX := Lib.hid (Box2.start w c p)
  clear heq hoq hsq hU hor her hsr hwr hde hdv hd he h8 hn ho hg hc hp
  generalize synd c.gs p = s at *
  generalize wt p.x p.z = wp at *
  generalize wt x z = wq at *
  generalize distV c = d at *
  generalize logic c.xs c.zs (mulP ⟨c.n, x, z, 0⟩ p) = l at *
  generalize mulP ⟨c.n, x, z, 0⟩ p = r at *
  have hwI : (wp : Int) ≤ 64 := by omega
  have hqI : (wq : Int) ≤ wp := by omega
  by_cases h2 : d ≤ 2 * (wp : Int)
  · clear h25 h14 hlr
    obtain ⟨n, ga, gc, gs, xa, xc, xs, za, zc, zs⟩ := c
    simp only at *
    go_enter Try.func8, Try.ntmps8
    go_wp2_with fail
    go_at_call 9
    refine (alive_calls _).mono ?_
    rintro e w1 ⟨rfl, hb⟩
    replace HBX := Lib.hid (HBX.out.step hb)
    clear hb
    obtain ⟨⟨-, hlt, k0, k1, k2, k3⟩, ⟨p0, p1, p2, p3⟩, hlt2⟩ := HBX.out
    go_wp2_with fail
    go_at_call 12
    refine (h12p _ HBX.out.box.below).mono ?_
    rintro e w2 ⟨rfl, hb⟩
    replace HBX := Lib.hid (HBX.out.step hb)
    clear hb k0 k1 k2 k3 p0 p1 p2 p3 hlt hlt2
    obtain ⟨⟨-, hlt, k0, k1, k2, k3⟩, ⟨p0, p1, p2, p3⟩, hlt2⟩ := HBX.out
    go_wp2_with fail
    go_at_call 16
    refine (h16 _ HBX.out.box.below).mono ?_
    rintro e w3 ⟨rfl, hb⟩
    replace HBX := Lib.hid (HBX.out.step hb)
    clear hb k0 k1 k2 k3 p0 p1 p2 p3 hlt hlt2
    obtain ⟨⟨-, hlt, k0, k1, k2, k3⟩, ⟨p0, p1, p2, p3⟩, hlt2⟩ := HBX.out
    go_wp2_with fail
    go_at_call 18
    refine (h18 _ HBX.out.box.below).mono ?_
    rintro e w4 ⟨rfl, hb⟩
    replace HBX := Lib.hid ((HBX.out.step hb).step (below1 w4 (.cells #[.int .i64 n, .int .u64 x, .int .u64 z, .int .i64 0] 27)))
    have HQ : Hid (Cells4 (w4.alloc (.cells #[.int .i64 n, .int .u64 x, .int .u64 z, .int .i64 0] 27)) w4.heap.size 0 ⟨n, x, z, 0⟩) := Lib.hid (Cells4.of (p := ⟨n, x, z, 0⟩) (newAt _ _ rfl))
    have hQl : w4.heap.size < (w4.alloc (.cells #[.int .i64 n, .int .u64 x, .int .u64 z, .int .i64 0] 27)).heap.size := by simp
    clear hb k0 k1 k2 k3 p0 p1 p2 p3 hlt hlt2
    obtain ⟨⟨-, hlt, k0, k1, k2, k3⟩, ⟨p0, p1, p2, p3⟩, hlt2⟩ := HBX.out
    obtain ⟨q0, q1, q2, q3⟩ := HQ.out
    simp only at q0 q1 q2 q3
    go_wp2_with fail
    go_at_call 12
    refine (h12q _ HBX.out.box.below).mono ?_
    rintro e w5 ⟨rfl, hb⟩
    replace HBX := Lib.hid (HBX.out.step hb)
    have HQ2 := Lib.hid (HQ.out.below (hQl) hb)
    replace hQl := Nat.lt_of_lt_of_le hQl hb.size
    clear HQ
    have HQ := HQ2
    clear HQ2
    clear hb k0 k1 k2 k3 p0 p1 p2 p3 hlt hlt2 q0 q1 q2 q3
    obtain ⟨⟨-, hlt, k0, k1, k2, k3⟩, ⟨p0, p1, p2, p3⟩, hlt2⟩ := HBX.out
    obtain ⟨q0, q1, q2, q3⟩ := HQ.out
    simp only at q0 q1 q2 q3
    go_wp2_with fail
    go_at_call 27
    refine (h27p _).mono ?_
    rintro e w6 ⟨rfl, hb⟩
    replace HBX := Lib.hid (HBX.out.step hb)
    have HQ2 := Lib.hid (HQ.out.below (hQl) hb)
    replace hQl := Nat.lt_of_lt_of_le hQl hb.size
    clear HQ
    have HQ := HQ2
    clear HQ2
    clear hb k0 k1 k2 k3 p0 p1 p2 p3 hlt hlt2 q0 q1 q2 q3
    obtain ⟨⟨-, hlt, k0, k1, k2, k3⟩, ⟨p0, p1, p2, p3⟩, hlt2⟩ := HBX.out
    obtain ⟨q0, q1, q2, q3⟩ := HQ.out
    simp only at q0 q1 q2 q3
    go_wp2_with fail
    go_at_call 27
    refine (h27q _).mono ?_
    rintro e w7 ⟨rfl, hb⟩
    replace HBX := Lib.hid (HBX.out.step hb)
    have HQ2 := Lib.hid (HQ.out.below (hQl) hb)
    replace hQl := Nat.lt_of_lt_of_le hQl hb.size
    clear HQ
    have HQ := HQ2
    clear HQ2
    clear hb k0 k1 k2 k3 p0 p1 p2 p3 hlt hlt2 q0 q1 q2 q3
    obtain ⟨⟨-, hlt, k0, k1, k2, k3⟩, ⟨p0, p1, p2, p3⟩, hlt2⟩ := HBX.out
    obtain ⟨q0, q1, q2, q3⟩ := HQ.out
    simp only at q0 q1 q2 q3
    go_wp2_with fail
    go_ret
    exact ⟨by simp, HBX.out.box.below⟩
  · have hl := hlr (by omega)
    rw [hl] at h14
    clear hlr hl
    obtain ⟨n, ga, gc, gs, xa, xc, xs, za, zc, zs⟩ := c
    simp only at *
    go_enter Try.func8, Try.ntmps8
    go_wp2_with fail
    go_at_call 9
    refine (alive_calls _).mono ?_
    rintro e w1 ⟨rfl, hb⟩
    replace HBX := Lib.hid (HBX.out.step hb)
    clear hb
    obtain ⟨⟨-, hlt, k0, k1, k2, k3⟩, ⟨p0, p1, p2, p3⟩, hlt2⟩ := HBX.out
    go_wp2_with fail
    go_at_call 12
    refine (h12p _ HBX.out.box.below).mono ?_
    rintro e w2 ⟨rfl, hb⟩
    replace HBX := Lib.hid (HBX.out.step hb)
    clear hb k0 k1 k2 k3 p0 p1 p2 p3 hlt hlt2
    obtain ⟨⟨-, hlt, k0, k1, k2, k3⟩, ⟨p0, p1, p2, p3⟩, hlt2⟩ := HBX.out
    go_wp2_with fail
    go_at_call 16
    refine (h16 _ HBX.out.box.below).mono ?_
    rintro e w3 ⟨rfl, hb⟩
    replace HBX := Lib.hid (HBX.out.step hb)
    clear hb k0 k1 k2 k3 p0 p1 p2 p3 hlt hlt2
    obtain ⟨⟨-, hlt, k0, k1, k2, k3⟩, ⟨p0, p1, p2, p3⟩, hlt2⟩ := HBX.out
    go_wp2_with fail
    go_at_call 18
    refine (h18 _ HBX.out.box.below).mono ?_
    rintro e w4 ⟨rfl, hb⟩
    replace HBX := Lib.hid ((HBX.out.step hb).step (below1 w4 (.cells #[.int .i64 n, .int .u64 x, .int .u64 z, .int .i64 0] 27)))
    have HQ : Hid (Cells4 (w4.alloc (.cells #[.int .i64 n, .int .u64 x, .int .u64 z, .int .i64 0] 27)) w4.heap.size 0 ⟨n, x, z, 0⟩) := Lib.hid (Cells4.of (p := ⟨n, x, z, 0⟩) (newAt _ _ rfl))
    have hQl : w4.heap.size < (w4.alloc (.cells #[.int .i64 n, .int .u64 x, .int .u64 z, .int .i64 0] 27)).heap.size := by simp
    clear hb k0 k1 k2 k3 p0 p1 p2 p3 hlt hlt2
    obtain ⟨⟨-, hlt, k0, k1, k2, k3⟩, ⟨p0, p1, p2, p3⟩, hlt2⟩ := HBX.out
    obtain ⟨q0, q1, q2, q3⟩ := HQ.out
    simp only at q0 q1 q2 q3
    go_wp2_with fail
    go_at_call 12
    refine (h12q _ HBX.out.box.below).mono ?_
    rintro e w5 ⟨rfl, hb⟩
    replace HBX := Lib.hid (HBX.out.step hb)
    have HQ2 := Lib.hid (HQ.out.below (hQl) hb)
    replace hQl := Nat.lt_of_lt_of_le hQl hb.size
    clear HQ
    have HQ := HQ2
    clear HQ2
    clear hb k0 k1 k2 k3 p0 p1 p2 p3 hlt hlt2 q0 q1 q2 q3
    obtain ⟨⟨-, hlt, k0, k1, k2, k3⟩, ⟨p0, p1, p2, p3⟩, hlt2⟩ := HBX.out
    obtain ⟨q0, q1, q2, q3⟩ := HQ.out
    simp only at q0 q1 q2 q3
    go_wp2_with fail
    go_at_call 27
    refine (h27p _).mono ?_
    rintro e w6 ⟨rfl, hb⟩
    replace HBX := Lib.hid (HBX.out.step hb)
    have HQ2 := Lib.hid (HQ.out.below (hQl) hb)
    replace hQl := Nat.lt_of_lt_of_le hQl hb.size
    clear HQ
    have HQ := HQ2
    clear HQ2
    clear hb k0 k1 k2 k3 p0 p1 p2 p3 hlt hlt2 q0 q1 q2 q3
    obtain ⟨⟨-, hlt, k0, k1, k2, k3⟩, ⟨p0, p1, p2, p3⟩, hlt2⟩ := HBX.out
    obtain ⟨q0, q1, q2, q3⟩ := HQ.out
    simp only at q0 q1 q2 q3
    go_wp2_with fail
    go_at_call 27
    refine (h27q _).mono ?_
    rintro e w7 ⟨rfl, hb⟩
    replace HBX := Lib.hid (HBX.out.step hb)
    have HQ2 := Lib.hid (HQ.out.below (hQl) hb)
    replace hQl := Nat.lt_of_lt_of_le hQl hb.size
    clear HQ
    have HQ := HQ2
    clear HQ2
    clear hb k0 k1 k2 k3 p0 p1 p2 p3 hlt hlt2 q0 q1 q2 q3
    obtain ⟨⟨-, hlt, k0, k1, k2, k3⟩, ⟨p0, p1, p2, p3⟩, hlt2⟩ := HBX.out
    obtain ⟨q0, q1, q2, q3⟩ := HQ.out
    simp only at q0 q1 q2 q3
    go_wp2_with fail
    go_at_call 25
    refine (h25 _).mono ?_
    rintro e w8 ⟨rfl, hb⟩
    replace HBX := Lib.hid ((HBX.out.step hb).step (below1 w8 (Obj.cells #[.int .i64 r.n, .int .u64 r.x, .int .u64 r.z, .int .i64 r.ph] 27)))
    have HR : Hid (Cells4 (w8.alloc (Obj.cells #[.int .i64 r.n, .int .u64 r.x, .int .u64 r.z, .int .i64 r.ph] 27)) w8.heap.size 0 r) := Lib.hid (Cells4.of (newAt _ _ rfl))
    clear hb k0 k1 k2 k3 p0 p1 p2 p3 hlt hlt2 q0 q1 q2 q3 HQ hQl
    obtain ⟨⟨-, hlt, k0, k1, k2, k3⟩, ⟨p0, p1, p2, p3⟩, hlt2⟩ := HBX.out
    obtain ⟨r0, r1, r2, r3⟩ := HR.out
    go_wp2_with fail
    go_at_call 14
    refine (h14 _ HBX.out.box.below).mono ?_
    rintro e w9 ⟨rfl, hb⟩
    replace HBX := Lib.hid (HBX.out.step hb)
    clear hb k0 k1 k2 k3 p0 p1 p2 p3 hlt hlt2 r0 r1 r2 r3
    go_wp2_with fail
    go_ret
    exact ⟨rfl, HBX.out.box.below.alloc HBX.out.box.below.size _⟩

set_option maxRecDepth 100000 in
set_option maxHeartbeats 8000000 in
theorem corrects_out (c : Cod) (p : Pau) (w : World) (hc : CodAt w c) (hp : WF p) (he : err2 c p ≠ 0 ∨ err2 c p = 0 ∧ distE c ≠ 0) : Calls Try.prog 8 #[(Value.agg #[.int .i64 c.n, .slice c.ga c.gs.length c.gc, .slice c.xa c.xs.length c.xc, .slice c.za c.zs.length c.zc]), (Value.agg #[.int .i64 p.n, .int .u64 p.x, .int .u64 p.z, .int .i64 p.ph])] w fun e w' => e = .returned (.bool true) ∧ Below w.heap.size w w' := by
  have h12p := fun W (h : Below w.heap.size w W) => syndrome_calls c p W (hc.below h) hp
  have h16 := fun W (h : Below w.heap.size w W) => distance_calls c W (hc.below h)
  have HBX := Lib.hid (Box2.start w c p)
  clear hc hp
  generalize synV c p = s at *
  generalize err2 c p = f at *
  generalize distV c = d at *
  generalize distE c = g at *
  obtain ⟨n, ga, gc, gs, xa, xc, xs, za, zc, zs⟩ := c
  simp only at *
  rcases he with he | ⟨rfl, he⟩
  · have hne : (f != 0) = true := by simpa using he
    clear he
    go_enter Try.func8, Try.ntmps8
    go_wp2_with fail
    go_at_call 9
    refine (alive_calls _).mono ?_
    rintro e w1 ⟨rfl, hb⟩
    replace HBX := Lib.hid (HBX.out.step hb)
    clear hb
    obtain ⟨⟨-, hlt, k0, k1, k2, k3⟩, ⟨p0, p1, p2, p3⟩, hlt2⟩ := HBX.out
    go_wp2_with fail
    go_at_call 12
    refine (h12p _ HBX.out.box.below).mono ?_
    rintro e w2 ⟨rfl, hb⟩
    replace HBX := Lib.hid (HBX.out.step hb)
    clear hb k0 k1 k2 k3 p0 p1 p2 p3 hlt hlt2
    obtain ⟨⟨-, hlt, k0, k1, k2, k3⟩, ⟨p0, p1, p2, p3⟩, hlt2⟩ := HBX.out
    go_wp2_with fail
    go_at_call 16
    refine (h16 _ HBX.out.box.below).mono ?_
    rintro e w3 ⟨rfl, hb⟩
    replace HBX := Lib.hid (HBX.out.step hb)
    clear hb k0 k1 k2 k3 p0 p1 p2 p3 hlt hlt2
    go_wp2_with fail
    go_ret
    exact ⟨rfl, HBX.out.box.below⟩
  · have hne : (g != 0) = true := by simpa using he
    clear he
    go_enter Try.func8, Try.ntmps8
    go_wp2_with fail
    go_at_call 9
    refine (alive_calls _).mono ?_
    rintro e w1 ⟨rfl, hb⟩
    replace HBX := Lib.hid (HBX.out.step hb)
    clear hb
    obtain ⟨⟨-, hlt, k0, k1, k2, k3⟩, ⟨p0, p1, p2, p3⟩, hlt2⟩ := HBX.out
    go_wp2_with fail
    go_at_call 12
    refine (h12p _ HBX.out.box.below).mono ?_
    rintro e w2 ⟨rfl, hb⟩
    replace HBX := Lib.hid (HBX.out.step hb)
    clear hb k0 k1 k2 k3 p0 p1 p2 p3 hlt hlt2
    obtain ⟨⟨-, hlt, k0, k1, k2, k3⟩, ⟨p0, p1, p2, p3⟩, hlt2⟩ := HBX.out
    go_wp2_with fail
    go_at_call 16
    refine (h16 _ HBX.out.box.below).mono ?_
    rintro e w3 ⟨rfl, hb⟩
    replace HBX := Lib.hid (HBX.out.step hb)
    clear hb k0 k1 k2 k3 p0 p1 p2 p3 hlt hlt2
    go_wp2_with fail
    go_ret
    exact ⟨rfl, HBX.out.box.below⟩

theorem corrects_walk (c : Cod) (p : Pau) (w : World) (hc : CodAt w c) (hp : WF p) : Calls Try.prog 8 #[(Value.agg #[.int .i64 c.n, .slice c.ga c.gs.length c.gc, .slice c.xa c.xs.length c.xc, .slice c.za c.zs.length c.zc]), (Value.agg #[.int .i64 p.n, .int .u64 p.x, .int .u64 p.z, .int .i64 p.ph])] w fun e w' => e = .returned (.bool true) ∧ Below w.heap.size w w' := by
  by_cases he : err2 c p = 0
  · by_cases hd : distE c = 0
    · exact corrects_in c p w hc hp he hd
    · exact corrects_out c p w hc hp (.inr ⟨he, hd⟩)
  · exact corrects_out c p w hc hp (.inl he)
end Go.Proofs.Ytfnmembjgclhoaa.CD
