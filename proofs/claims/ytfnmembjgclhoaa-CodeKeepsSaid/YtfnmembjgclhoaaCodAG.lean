/- alive: walked. -/
import Derived.Test.YtfnmembjgclhoaaCodAF
namespace Go.Proofs.Ytfnmembjgclhoaa.CD
open Go Go.RowKit
set_option linter.unusedVariables false
set_option linter.unusedSimpArgs false
open B (pcs ofB)

theorem wf320 : WF ⟨3, 2, 0, 0⟩ := ⟨by unfold U; decide, by unfold U; decide, by unfold I64; decide, by unfold I64; decide⟩
theorem wf301 : WF ⟨3, 0, 1, 0⟩ := ⟨by unfold U; decide, by unfold U; decide, by unfold I64; decide, by unfold I64; decide⟩
/-- The example's code in its box. -/
structure Al (w : World) (c : Cod) (B : Nat) (W : World) : Prop where
  below : Below w.heap.size w W
  code : CodAt W c
  box : Boxed W B c
theorem Al.step {w W W' : World} {c : Cod} {B : Nat} (h : Al w c B W) (hb : Below W.heap.size W W') : Al w c B W' :=
  ⟨h.below.trans (hb.mono h.below.size), h.code.below hb, h.box.below hb⟩
theorem Al.start {w W : World} {c : Cod} (hb : Below w.heap.size w W) (hc : CodAt W c) : Al w c W.heap.size (W.alloc (.cells #[.int .i64 c.n, (Value.slice c.ga c.gs.length c.gc), (Value.slice c.xa c.xs.length c.xc), (Value.slice c.za c.zs.length c.zc)] 24)) :=
  ⟨hb.trans ((below1 W _).mono hb.size), hc.below (below1 W _), ⟨by simp, cell_of (newAt _ _ rfl) rfl, cell_of (newAt _ _ rfl) rfl, cell_of (newAt _ _ rfl) rfl, cell_of (newAt _ _ rfl) rfl⟩⟩

set_option maxRecDepth 100000 in
set_option maxHeartbeats 8000000 in
theorem alive_calls (w : World) : Calls Try.prog 9 #[] w fun e w' => e = .returned (.bool true) ∧ Below w.heap.size w w' := by
  have hb1 : ∀ (w : World), (Instr.build 27 #[(0, .int .i64 3), (1, .int .u64 2)]).run Try.prog w = .ok (.agg #[.int .i64 3, .int .u64 2, .int .u64 0, .int .i64 0]) w := fun w => run_build w 27 _ _ (by kernel_rfl)
  have hb2 : ∀ (w : World), (Instr.build 27 #[(0, .int .i64 3), (2, .int .u64 1)]).run Try.prog w = .ok (.agg #[.int .i64 3, .int .u64 0, .int .u64 1, .int .i64 0]) w := fun w => run_build w 27 _ _ (by kernel_rfl)
  have hb3 : ∀ (w : World), (Instr.build 27 #[(0, .int .i64 3), (1, .int .u64 4)]).run Try.prog w = .ok (.agg #[.int .i64 3, .int .u64 4, .int .u64 0, .int .i64 0]) w := fun w => run_build w 27 _ _ (by kernel_rfl)
  have hb4 : ∀ (w : World), (Instr.build 27 #[(0, .int .i64 1), (2, .int .u64 1)]).run Try.prog w = .ok (.agg #[.int .i64 1, .int .u64 0, .int .u64 1, .int .i64 0]) w := fun w => run_build w 27 _ _ (by kernel_rfl)
  have hb5 : ∀ (w : World), (Instr.build 24 #[]).run Try.prog w = .ok (.agg #[.int .i64 0, .slice none 0 0, .slice none 0 0, .slice none 0 0]) w := fun w => run_build w 24 _ _ (by kernel_rfl)
  go_enter Try.func9, Try.ntmps9
  go_wp2_with fail
  go_at_call 21
  refine (named_bit3 _).mono ?_
  rintro e w1 ⟨g, gk, x, xk, z, zk, hm, rfl⟩
  have hc := hm.code (by unfold I64; omega) (by decide) (by decide) (by decide)
  have HB := Lib.hid hm.below
  have HC := Lib.hid hc
  clear hm hc
  have HA := Lib.hid (Al.start HB.out HC.out)
  have cS := fun W (h : CodAt W (codeOf 3 bit3G bit3X bit3Z g gk x xk z zk)) => syndrome_calls _ ⟨3, 2, 0, 0⟩ W h wf320
  rw [bit3_syn, bit3_err2 _ _ _ _ _ _ _ (by decide) rfl] at cS
  go_wp2_with fail
  go_at_call 12
  refine (cS _ HA.out.code).mono ?_
  rintro e w2 ⟨rfl, hb⟩
  have HA2 := Lib.hid (HA.out.step hb)
  clear hb
  obtain ⟨hlt, k0, k1, k2, k3⟩ := HA2.out.box
  have cD := fun W (h : CodAt W (codeOf 3 bit3G bit3X bit3Z g gk x xk z zk)) => decode_calls _ 2 W h (by unfold U; decide)
  rw [(bit3_dec ..).1, (bit3_dec ..).2] at cD
  go_wp2_with fail
  go_at_call 18
  refine (cD _ HA2.out.code).mono ?_
  rintro e w3 ⟨rfl, hb⟩
  have HA3 := Lib.hid (HA2.out.step hb)
  clear hb k0 k1 k2 k3 hlt
  have HA4 := Lib.hid (HA3.out.step (below1 w3 (.cells #[.int .i64 3, .int .u64 4, .int .u64 0, .int .i64 0] 27)))
  have HP4 : Hid (Cells4 (w3.alloc (.cells #[.int .i64 3, .int .u64 4, .int .u64 0, .int .i64 0] 27)) w3.heap.size 0 ⟨3, 4, 0, 0⟩) := Lib.hid (Cells4.of (p := ⟨3, 4, 0, 0⟩) (newAt _ _ rfl))
  obtain ⟨hlt, k0, k1, k2, k3⟩ := HA3.out.box
  have cX := fun W (h : CodAt W (codeOf 3 bit3G bit3X bit3Z g gk x xk z zk)) => distance_calls _ W h
  rw [bit3_dist, (show distE (codeOf 3 bit3G bit3X bit3Z g gk x xk z zk) = 0 by unfold distE; rw [if_pos (bit3_good ..)]; exact if_pos (show (3 : Int) ≤ 8 by decide))] at cX
  go_wp2_with fail
  go_at_call 16
  refine (cX _ HA4.out.code).mono ?_
  rintro e w4 ⟨rfl, hb⟩
  have HA5 := Lib.hid (HA4.out.step hb)
  have HP5 := Lib.hid (HP4.out.below (by simp) hb)
  have hs4 : w3.heap.size < w4.heap.size := by have h1 := hb.size; simp at h1; omega
  clear hb k0 k1 k2 k3 hlt
  obtain ⟨hlt, k0, k1, k2, k3⟩ := HA5.out.box
  have cL := fun W (h : CodAt W (codeOf 3 bit3G bit3X bit3Z g gk x xk z zk)) => logicalof_calls _ ⟨3, 0, 1, 0⟩ W h wf301
  rw [(bit3_log ..).1, (bit3_log ..).2] at cL
  go_wp2_with fail
  go_at_call 14
  refine (cL _ HA5.out.code).mono ?_
  rintro e w5 ⟨rfl, hb⟩
  have HA6 := Lib.hid (HA5.out.step hb)
  have HP6 := Lib.hid (HP5.out.below hs4 hb)
  have hs5 : w3.heap.size < w5.heap.size := by have h1 := hb.size; omega
  clear hb k0 k1 k2 k3 hlt
  obtain ⟨p0, p1, p2, p3⟩ := HP6.out
  have HA7 := Lib.hid (HA6.out.below.alloc HA6.out.below.size (.cells #[.int .i64 1, .int .u64 0, .int .u64 1, .int .i64 0] 27))
  have cZ := fun W => check_c ⟨0, none, 0, [], none, 0, [], none, 0, []⟩ W ⟨by unfold I64; decide, ⟨by simp, by simp, by simp, by simp, .inl rfl⟩, ⟨by simp, by simp, by simp, by simp, .inl rfl⟩, ⟨by simp, by simp, by simp, by simp, .inl rfl⟩⟩
  rw [(show errC ⟨0, none, 0, [], none, 0, [], none, 0, []⟩ = 230 by unfold errC; exact if_neg (fun h => absurd h.n1 (by decide)))] at cZ
  go_wp2_with fail
  go_at_call 10
  refine (cZ _).mono ?_
  rintro e w6 ⟨rfl, hb⟩
  have HA8 := Lib.hid (HA7.out.trans (hb.mono HA7.out.size))
  clear hb
  go_wp2_with fail
  go_ret
  exact ⟨by simp, HA8.out⟩
end Go.Proofs.Ytfnmembjgclhoaa.CD
