/- The package pauli: walked. -/
import Derived.Test.YtfnmembjgclhoaaCodBA
import Derived.BigQuiet
namespace Go.Proofs.Ytfnmembjgclhoaa.CD
open Go Go.RowKit
set_option linter.unusedVariables false
set_option linter.unusedSimpArgs false
open B (pcs ofB)

set_option maxRecDepth 100000 in
theorem count_calls (x : Nat) (hx : U x) (w : World) : Calls Try.prog 51 #[.int .u64 x] w fun e w' => e = .returned (.int .i64 (pop x)) ∧ w' = w := by
  have h := ones_calls x hx w
  have hp := pop_le x
  generalize pop x = n at h hp
  go_enter Try.func51, Try.ntmps51
  go_wp2_with fail
  go_at_call 43
  refine h.mono ?_
  rintro e w' ⟨rfl, rfl⟩
  go_wp2
  go_ret
  exact ⟨rfl, rfl⟩

/-- Two strings' boxes. -/
structure Box4 (w : World) (p q : Pau) (W : World) : Prop where
  below : Below w.heap.size w W
  p : Cells4 W w.heap.size 0 p
  q : Cells4 W (w.heap.size + 1) 0 q
  lt : w.heap.size + 1 < W.heap.size
theorem Box4.start (w : World) (p q : Pau) : Box4 w p q ((w.alloc (Obj.cells #[.int .i64 p.n, .int .u64 p.x, .int .u64 p.z, .int .i64 p.ph] 27)).alloc (Obj.cells #[.int .i64 q.n, .int .u64 q.x, .int .u64 q.z, .int .i64 q.ph] 27)) :=
  ⟨below2 _ _ _, (Cells4.of (p := p) (newAt w (Obj.cells #[.int .i64 p.n, .int .u64 p.x, .int .u64 p.z, .int .i64 p.ph] 27) rfl)).below (by simp) (below1 _ _), Cells4.of (newAt _ _ (by simp)), by simp⟩
theorem Box4.step {w W W' : World} {p q : Pau} (h : Box4 w p q W) (hb : Below W.heap.size W W') : Box4 w p q W' :=
  ⟨h.below.trans (hb.mono h.below.size), h.p.below (Nat.lt_of_succ_lt h.lt) hb, h.q.below h.lt hb, Nat.lt_of_lt_of_le h.lt hb.size⟩
open Classical in
noncomputable def errM (p q : Pau) : Int := if Ok p then if Ok q then if p.n = q.n then 0 else 2 else 70 else 70

set_option maxRecDepth 100000 in
set_option maxHeartbeats 2000000 in
theorem both_calls (p q : Pau) (hp : WF p) (hq : WF q) (w : World) : Calls Try.prog 50 #[(Value.agg #[.int .i64 p.n, .int .u64 p.x, .int .u64 p.z, .int .i64 p.ph]), (Value.agg #[.int .i64 q.n, .int .u64 q.x, .int .u64 q.z, .int .i64 q.ph])] w fun e w' => e = .returned (.int .i64 (errM p q)) ∧ Below w.heap.size w w' := by
  have HBX := Lib.hid (Box4.start w p q)
  obtain ⟨-, ⟨p0, p1, p2, p3⟩, ⟨q0, q1, q2, q3⟩, hlt⟩ := HBX.out
  by_cases A1 : Ok p
  · have h1 := fun W => check_ok p hp A1 W
    by_cases A2 : Ok q
    · have h2 := fun W => check_ok q hq A2 W
      by_cases A3 : p.n = q.n
      · have e3 : errM p q = 0 := by simp [errM, A1, A2, A3]
        rw [e3]
        clear e3 A1 A2
        obtain ⟨n, px, pz, pp⟩ := p
        obtain ⟨n', qx, qz, qp⟩ := q
        simp only at A3 p0 p1 p2 p3 q0 q1 q2 q3 h1 h2 HBX
        subst A3
        go_enter Try.func50, Try.ntmps50
        go_wp2_with fail
        go_at_call 24
        refine (h1 _).mono ?_
        rintro e w1 ⟨rfl, hb⟩
        replace HBX := Lib.hid (HBX.out.step hb)
        clear hb p0 p1 p2 p3 q0 q1 q2 q3 hlt
        obtain ⟨-, ⟨p0, p1, p2, p3⟩, ⟨q0, q1, q2, q3⟩, hlt⟩ := HBX.out
        go_wp2_with fail
        go_at_call 24
        refine (h2 _).mono ?_
        rintro e w2 ⟨rfl, hb⟩
        replace HBX := Lib.hid (HBX.out.step hb)
        clear hb p0 p1 p2 p3 q0 q1 q2 q3 hlt
        obtain ⟨-, ⟨p0, p1, p2, p3⟩, ⟨q0, q1, q2, q3⟩, hlt⟩ := HBX.out
        go_wp2_with fail
        go_ret
        exact ⟨rfl, HBX.out.below⟩
      · have e3 : errM p q = 2 := by simp [errM, A1, A2, A3]
        have hne : (p.n != q.n) = true := by simpa using A3
        rw [e3]
        clear e3 A1 A2 A3
        obtain ⟨n, px, pz, pp⟩ := p
        obtain ⟨n', qx, qz, qp⟩ := q
        simp only at hne p0 p1 p2 p3 q0 q1 q2 q3 h1 h2 HBX
        go_enter Try.func50, Try.ntmps50
        go_wp2_with fail
        go_at_call 24
        refine (h1 _).mono ?_
        rintro e w1 ⟨rfl, hb⟩
        replace HBX := Lib.hid (HBX.out.step hb)
        clear hb p0 p1 p2 p3 q0 q1 q2 q3 hlt
        obtain ⟨-, ⟨p0, p1, p2, p3⟩, ⟨q0, q1, q2, q3⟩, hlt⟩ := HBX.out
        go_wp2_with fail
        go_at_call 24
        refine (h2 _).mono ?_
        rintro e w2 ⟨rfl, hb⟩
        replace HBX := Lib.hid (HBX.out.step hb)
        clear hb p0 p1 p2 p3 q0 q1 q2 q3 hlt
        obtain ⟨-, ⟨p0, p1, p2, p3⟩, ⟨q0, q1, q2, q3⟩, hlt⟩ := HBX.out
        go_wp2_with fail
        go_ret
        exact ⟨rfl, HBX.out.below⟩
    · have h2 := fun W => check_bad q hq A2 W
      have e3 : errM p q = 70 := by simp [errM, A1, A2]
      rw [e3]
      clear e3 A1 A2
      go_enter Try.func50, Try.ntmps50
      go_wp2_with fail
      go_at_call 24
      refine (h1 _).mono ?_
      rintro e w1 ⟨rfl, hb⟩
      replace HBX := Lib.hid (HBX.out.step hb)
      clear hb p0 p1 p2 p3 q0 q1 q2 q3 hlt
      obtain ⟨-, ⟨p0, p1, p2, p3⟩, ⟨q0, q1, q2, q3⟩, hlt⟩ := HBX.out
      go_wp2_with fail
      go_at_call 24
      refine (h2 _).mono ?_
      rintro e w2 ⟨rfl, hb⟩
      replace HBX := Lib.hid (HBX.out.step hb)
      go_wp2_with fail
      go_ret
      exact ⟨rfl, HBX.out.below⟩
  · have h1 := fun W => check_bad p hp A1 W
    have e3 : errM p q = 70 := by simp [errM, A1]
    rw [e3]
    clear e3 A1
    go_enter Try.func50, Try.ntmps50
    go_wp2_with fail
    go_at_call 24
    refine (h1 _).mono ?_
    rintro e w1 ⟨rfl, hb⟩
    replace HBX := Lib.hid (HBX.out.step hb)
    go_wp2_with fail
    go_ret
    exact ⟨rfl, HBX.out.below⟩

set_option maxRecDepth 100000 in
theorem eye_calls (n : Int) (h0 : 0 ≤ n) (h1 : n ≤ 64) (w : World) : Calls Try.prog 26 #[.int .i64 n] w fun e w' => e = .returned (.tuple #[.agg #[.int .i64 n, .int .u64 0, .int .u64 0, .int .i64 0], .int .i64 0]) ∧ Below w.heap.size w w' := by
  have hbd : ∀ (a : Int) (w : World), (Instr.build 27 #[(0, .int .i64 a)]).run Try.prog w = .ok (.agg #[.int .i64 a, .int .u64 0, .int .u64 0, .int .i64 0]) w := fun a w => run_build w 27 _ _ (by kernel_rfl)
  have g0 : (n < 0) = False := by simp; omega
  have g1 : (64 < n) = False := by simp; omega
  go_enter Try.func26, Try.ntmps26
  go_wp2_with fail
  refine bodyPost_ret (v := .tuple #[.agg #[.int .i64 n, .int .u64 0, .int .u64 0, .int .i64 0], .int .i64 0]) (by simp [results, Try.results26, go_sem, *]) rfl ⟨rfl, ?_⟩
  exact below1 _ _

set_option maxRecDepth 100000 in
theorem weight_calls (p : Pau) (hp : WF p) (hk : Ok p) (w : World) : Calls Try.prog 27 #[(Value.agg #[.int .i64 p.n, .int .u64 p.x, .int .u64 p.z, .int .i64 p.ph])] w fun e w' => e = .returned (.tuple #[.int .i64 (wt p.x p.z), .int .i64 0]) ∧ Below w.heap.size w w' := by
  have hL := below1 w (Obj.cells #[.int .i64 p.n, .int .u64 p.x, .int .u64 p.z, .int .i64 p.ph] 27)
  have hp1 : Cells4 (w.alloc (Obj.cells #[.int .i64 p.n, .int .u64 p.x, .int .u64 p.z, .int .i64 p.ph] 27)) w.heap.size 0 p := Cells4.of (newAt _ _ rfl)
  have h1 := fun W => check_ok p hp hk W
  have hox := or_eq hp.x hp.z
  have h2 := fun W => count_calls (p.x ||| p.z) (Nat.or_lt_two_pow hp.x hp.z) W
  unfold wt
  clear hk hp
  generalize p.x ||| p.z = y at h2 hox ⊢
  generalize pop y = v at h2 ⊢
  obtain ⟨n, x, z, ph⟩ := p
  simp only at *
  obtain ⟨p0, p1, p2, p3⟩ := hp1
  simp only at p0 p1 p2 p3
  go_enter Try.func27, Try.ntmps27
  go_wp2_with fail
  go_at_call 24
  refine (h1 _).mono ?_
  rintro e w1 ⟨rfl, hb⟩
  have q1 := (hb.cell (p := ⟨w.heap.size, 0 + 1, none⟩) (by simp)).trans p1
  have q2 := (hb.cell (p := ⟨w.heap.size, 0 + 2, none⟩) (by simp)).trans p2
  have HB := Lib.hid (hL.trans (hb.mono hL.size))
  clear hb p0 p1 p2 p3
  go_wp2_with fail
  go_at_call 51
  refine (h2 _).mono ?_
  rintro e w2 ⟨rfl, rfl⟩
  go_wp2_with fail
  refine bodyPost_ret (v := .tuple #[.int .i64 v, .int .i64 0]) (by simp [results, Try.results27, go_sem, *]) rfl ⟨rfl, HB.out⟩
end Go.Proofs.Ytfnmembjgclhoaa.CD
