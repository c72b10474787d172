/- pauli.Mul: walked. -/
import Derived.Test.YtfnmembjgclhoaaCodBB
namespace Go.Proofs.Ytfnmembjgclhoaa.CD
open Go Go.RowKit
set_option linter.unusedVariables false
set_option linter.unusedSimpArgs false
open B (pcs ofB)

/-- Two strings' boxes, the answer's cells behind them. -/
structure Box5 (w : World) (p q : Pau) (W : World) : Prop where
  four : Box4 w p q W
  o : Cells4 W (w.heap.size + 1 + 1) 0 ⟨0, 0, 0, 0⟩
  fr : ∀ i, W.frozen? ⟨w.heap.size + 1 + 1, i, none⟩ = false
  lt : w.heap.size + 1 + 1 < W.heap.size
theorem Box5.start (w : World) (p q : Pau) : Box5 w p q (((w.alloc (Obj.cells #[.int .i64 p.n, .int .u64 p.x, .int .u64 p.z, .int .i64 p.ph] 27)).alloc (Obj.cells #[.int .i64 q.n, .int .u64 q.x, .int .u64 q.z, .int .i64 q.ph] 27)).alloc (.cells #[.int .i64 0, .int .u64 0, .int .u64 0, .int .i64 0] 27)) :=
  ⟨(Box4.start w p q).step (below1 _ _), Cells4.of (p := ⟨0, 0, 0, 0⟩) (newAt _ _ (by simp)), fun i => free_of (newAt _ _ (by simp)), by simp⟩
theorem Box5.step {w W W' : World} {p q : Pau} (h : Box5 w p q W) (hb : Below W.heap.size W W') : Box5 w p q W' :=
  ⟨h.four.step hb, h.o.below h.lt hb, fun i => (hb.frozen (p := ⟨w.heap.size + 1 + 1, i, none⟩) h.lt).trans (h.fr i), Nat.lt_of_lt_of_le h.lt hb.size⟩

set_option maxRecDepth 100000 in
set_option maxHeartbeats 4000000 in
theorem mul_bad (p q : Pau) (hp : WF p) (hq : WF q) (he : errM p q ≠ 0) (w : World) : Calls Try.prog 25 #[(Value.agg #[.int .i64 p.n, .int .u64 p.x, .int .u64 p.z, .int .i64 p.ph]), (Value.agg #[.int .i64 q.n, .int .u64 q.x, .int .u64 q.z, .int .i64 q.ph])] w fun e w' => e = .returned (.tuple #[.agg #[.int .i64 0, .int .u64 0, .int .u64 0, .int .i64 0], .int .i64 (errM p q)]) ∧ Below w.heap.size w w' := by
  have HBX := Lib.hid (Box5.start w p q)
  have hbd : ∀ (w : World), (Instr.build 27 #[]).run Try.prog w = .ok (.agg #[.int .i64 0, .int .u64 0, .int .u64 0, .int .i64 0]) w := fun w => run_build w 27 _ _ (by kernel_rfl)
  have h1 := fun W => both_calls p q hp hq W
  generalize errM p q = e at he h1
  have hne : (e != 0) = true := by simpa using he
  clear he hp hq
  obtain ⟨⟨-, ⟨p0, p1, p2, p3⟩, ⟨q0, q1, q2, q3⟩, -⟩, ⟨o0, o1, o2, o3⟩, hfr, hlt⟩ := HBX.out
  simp only at o0 o1 o2 o3
  go_enter Try.func25, Try.ntmps25
  go_wp2_with fail
  go_at_call 50
  refine (h1 _).mono ?_
  rintro e' w1 ⟨rfl, hb⟩
  replace HBX := Lib.hid (HBX.out.step hb)
  clear hb p0 p1 p2 p3 q0 q1 q2 q3 o0 o1 o2 o3 hfr hlt
  obtain ⟨⟨-, ⟨p0, p1, p2, p3⟩, ⟨q0, q1, q2, q3⟩, -⟩, ⟨o0, o1, o2, o3⟩, hfr, hlt⟩ := HBX.out
  simp only at o0 o1 o2 o3
  go_wp2_with fail
  refine bodyPost_ret (v := .tuple #[.agg #[.int .i64 0, .int .u64 0, .int .u64 0, .int .i64 0], .int .i64 e]) (by simp [results, Try.results25, go_sem, *]) rfl ⟨rfl, ?_⟩
  exact put4 HBX.out.four.below (by omega) _ _ _ _

set_option maxRecDepth 100000 in
set_option maxHeartbeats 8000000 in
theorem mul_ok (p q : Pau) (hp : WF p) (hq : WF q) (kp : Ok p) (kq : Ok q) (hn : p.n = q.n) (w : World) : Calls Try.prog 25 #[(Value.agg #[.int .i64 p.n, .int .u64 p.x, .int .u64 p.z, .int .i64 p.ph]), (Value.agg #[.int .i64 q.n, .int .u64 q.x, .int .u64 q.z, .int .i64 q.ph])] w fun e w' => e = .returned (.tuple #[(Value.agg #[.int .i64 (mulP p q).n, .int .u64 (mulP p q).x, .int .u64 (mulP p q).z, .int .i64 (mulP p q).ph]), .int .i64 0]) ∧ Below w.heap.size w w' := by
  have HBX := Lib.hid (Box5.start w p q)
  have hbd : ∀ (a : Int) (b c : Nat) (w : World), (Instr.build 27 #[(0, .int .i64 a), (1, .int .u64 b), (2, .int .u64 c)]).run Try.prog w = .ok (.agg #[.int .i64 a, .int .u64 b, .int .u64 c, .int .i64 0]) w := fun a b c w => run_build w 27 _ _ (by kernel_rfl)
  have h1 := fun W => both_calls p q hp hq W
  rw [show errM p q = 0 by simp [errM, kp, kq, hn]] at h1
  have x1 := xor_eq hp.x hq.x
  have x2 := xor_eq hp.z hq.z
  have ux := u_xor hp.x hq.x
  have uz := u_xor hp.z hq.z
  have a1 := and_eq hp.x hp.z
  have a2 := and_eq hq.x hq.z
  have a3 := and_eq hp.z hq.x
  have a4 := and_eq ux uz
  have c1 := fun W => count_calls _ (u_and hp.x hp.z) W
  have c2 := fun W => count_calls _ (u_and hq.x hq.z) W
  have c3 := fun W => count_calls _ (u_and hp.z hq.x) W
  have c4 := fun W => count_calls _ (u_and ux uz) W
  have l1 := pop_le (p.x &&& p.z)
  have l2 := pop_le (q.x &&& q.z)
  have l3 := pop_le (p.z &&& q.x)
  have l4 := pop_le ((p.x ^^^ q.x) &&& (p.z ^^^ q.z))
  have f0 := kp.p0
  have f1 := kp.p1
  have f2 := kq.p0
  have f3 := kq.p1
  have hand : ∀ a, Go.bits .and .i64 a 3 = a % 4 := B.and3_i
  have mixed := mixed
  unfold mulP
  clear kp kq hp hq ux uz
  generalize pop (p.x &&& p.z) = A at *
  generalize pop (q.x &&& q.z) = B at *
  generalize pop (p.z &&& q.x) = C at *
  generalize pop ((p.x ^^^ q.x) &&& (p.z ^^^ q.z)) = D at *
  generalize p.x &&& p.z = PA at *
  generalize q.x &&& q.z = PB at *
  generalize p.z &&& q.x = PC at *
  generalize (p.x ^^^ q.x) &&& (p.z ^^^ q.z) = PD at *
  generalize p.x ^^^ q.x = X at *
  generalize p.z ^^^ q.z = Z at *
  obtain ⟨n, px, pz, pp⟩ := p
  obtain ⟨n', qx, qz, qp⟩ := q
  simp only at *
  subst hn
  obtain ⟨⟨-, ⟨p0, p1, p2, p3⟩, ⟨q0, q1, q2, q3⟩, -⟩, ⟨o0, o1, o2, o3⟩, hfr, hlt⟩ := HBX.out
  simp only at p0 p1 p2 p3 q0 q1 q2 q3 o0 o1 o2 o3
  go_enter Try.func25, Try.ntmps25
  go_wp2_with fail
  go_at_call 50
  refine (h1 _).mono ?_
  rintro e' w1 ⟨rfl, hb⟩
  replace HBX := Lib.hid (HBX.out.step hb)
  clear hb p0 p1 p2 p3 q0 q1 q2 q3 o0 o1 o2 o3 hfr hlt
  obtain ⟨⟨-, ⟨p0, p1, p2, p3⟩, ⟨q0, q1, q2, q3⟩, -⟩, ⟨o0, o1, o2, o3⟩, hfr, hlt⟩ := HBX.out
  simp only at p0 p1 p2 p3 q0 q1 q2 q3 o0 o1 o2 o3
  go_wp2_with fail
  have hE : Hid (Box5 w ⟨n, px, pz, pp⟩ ⟨n, qx, qz, qp⟩ (w1.alloc (.cells #[.int .i64 n, .int .u64 X, .int .u64 Z, .int .i64 0] 27))) := Lib.hid (HBX.out.step (below1 _ _))
  have hM : Cells4 (w1.alloc (.cells #[.int .i64 n, .int .u64 X, .int .u64 Z, .int .i64 0] 27)) w1.heap.size 0 ⟨n, X, Z, 0⟩ := Cells4.of (p := ⟨n, X, Z, 0⟩) (newAt _ _ rfl)
  have hMf : ∀ i, (w1.alloc (.cells #[.int .i64 n, .int .u64 X, .int .u64 Z, .int .i64 0] 27)).frozen? ⟨w1.heap.size, i, none⟩ = false := fun i => free_of (newAt _ _ rfl)
  have hPl : w.heap.size + 1 + 1 < w1.heap.size := hlt
  have hPg : w1.heap.size < (w1.alloc (.cells #[.int .i64 n, .int .u64 X, .int .u64 Z, .int .i64 0] 27)).heap.size := by simp
  clear HBX p0 p1 p2 p3 q0 q1 q2 q3 o0 o1 o2 o3 hfr hlt
  generalize w1.alloc (.cells #[.int .i64 n, .int .u64 X, .int .u64 Z, .int .i64 0] 27) = w2 at hE hM hMf hPg ⊢
  generalize w1.heap.size = P at hM hMf hPl hPg ⊢
  obtain ⟨⟨-, ⟨p0, p1, p2, p3⟩, ⟨q0, q1, q2, q3⟩, -⟩, ⟨o0, o1, o2, o3⟩, hfr, hlt⟩ := hE.out
  obtain ⟨m0, m1, m2, m3⟩ := hM
  simp only at p0 p1 p2 p3 q0 q1 q2 q3 o0 o1 o2 o3 m0 m1 m2 m3
  go_quiet (first | (go_at_call 51; with_reducible exact Calls.quiet_of_same (c1 _)) | (go_at_call 51; with_reducible exact Calls.quiet_of_same (c2 _)) | (go_at_call 51; with_reducible exact Calls.quiet_of_same (c3 _)) | (go_at_call 51; with_reducible exact Calls.quiet_of_same (c4 _)))
  go_wp2_with fail
  refine bodyPost_ret (v := .tuple #[.agg #[.int .i64 n, .int .u64 X, .int .u64 Z, .int .i64 ((pp + A + qp + B + 2 * C - D) % 4)], .int .i64 0]) (by simp [results, Try.results25, go_sem, *]) rfl ⟨rfl, ?_⟩
  exact put4 ((belowD hE.out.four.below _).setCell (p := ⟨P, 3, none⟩) (show w.heap.size ≤ P by omega) _) (by omega) _ _ _ _
end Go.Proofs.Ytfnmembjgclhoaa.CD
