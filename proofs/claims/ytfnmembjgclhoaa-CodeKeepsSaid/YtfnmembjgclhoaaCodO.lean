/- fault, asked, Syndrome, Logical: walked. -/
import Derived.Test.YtfnmembjgclhoaaCodK
namespace Go.Proofs.Ytfnmembjgclhoaa.CD
open Go Go.RowKit
set_option linter.unusedVariables false
set_option linter.unusedSimpArgs false

open Classical in
noncomputable def errC (c : Cod) : Int := if Good c then 0 else 230
open Classical in
noncomputable def errP (p : Pau) : Int := if Ok p then 0 else 70
open Classical in
noncomputable def err2 (c : Cod) (p : Pau) : Int := if Good c then if Ok p then if p.n = c.n then 0 else 2 else 70 else 230

theorem check_c (c : Cod) (w : World) (hc : CodAt w c) : Calls Try.prog 10 #[(Value.agg #[.int .i64 c.n, .slice c.ga c.gs.length c.gc, .slice c.xa c.xs.length c.xc, .slice c.za c.zs.length c.zc])] w fun e w' => e = .returned (.int .i64 (errC c)) ∧ Below w.heap.size w w' :=
  code_calls c w hc _ (fun h => by simp [errC, h]) (fun h => by simp [errC, h])
theorem refcheck_c (c : Cod) (w : World) (hc : CodAt w c) : Calls Try.prog 11 #[(Value.agg #[.int .i64 c.n, .slice c.ga c.gs.length c.gc, .slice c.xa c.xs.length c.xc, .slice c.za c.zs.length c.zc])] w fun e w' => e = .returned (.int .i64 (errC c)) ∧ Below w.heap.size w w' :=
  refcode_calls c w hc _ (fun h => by simp [errC, h]) (fun h => by simp [errC, h])
theorem check_p (p : Pau) (hw : WF p) (w : World) : Calls Try.prog 24 #[(Value.agg #[.int .i64 p.n, .int .u64 p.x, .int .u64 p.z, .int .i64 p.ph])] w fun e w' => e = .returned (.int .i64 (errP p)) ∧ Below w.heap.size w w' := by
  by_cases h : Ok p
  · simpa [errP, h] using check_ok p hw h w
  · simpa [errP, h] using check_bad p hw h w
theorem refcheck_p (p : Pau) (hw : WF p) (w : World) : Calls Try.prog 23 #[(Value.agg #[.int .i64 p.n, .int .u64 p.x, .int .u64 p.z, .int .i64 p.ph])] w fun e w' => e = .returned (.int .i64 (errP p)) ∧ Below w.heap.size w w' := by
  by_cases h : Ok p
  · simpa [errP, h] using refcheck_ok p hw h w
  · simpa [errP, h] using refcheck_bad p hw h w

/-- A code's box, a string's box behind it. -/
structure Box2 (w : World) (c : Cod) (p : Pau) (W : World) : Prop where
  box : BoxSt w c W
  p : Cells4 W (w.heap.size + 1) 0 p
  lt : w.heap.size + 1 < W.heap.size
theorem Box2.start (w : World) (c : Cod) (p : Pau) : Box2 w c p ((w.alloc (.cells #[.int .i64 c.n, (Value.slice c.ga c.gs.length c.gc), (Value.slice c.xa c.xs.length c.xc), (Value.slice c.za c.zs.length c.zc)] 24)).alloc (Obj.cells #[.int .i64 p.n, .int .u64 p.x, .int .u64 p.z, .int .i64 p.ph] 27)) :=
  ⟨(BoxSt.start w c).step (below1 _ _), by simp [Cells4], by simp⟩
theorem Box2.step {w W W' : World} {c : Cod} {p : Pau} (h : Box2 w c p W) (hb : Below W.heap.size W W') : Box2 w c p W' :=
  ⟨h.box.step hb, h.p.below h.lt hb, Nat.lt_of_lt_of_le h.lt hb.size⟩

set_option maxRecDepth 100000 in
set_option maxHeartbeats 4000000 in
theorem fault_calls (c : Cod) (p : Pau) (w : World) (hc : CodAt w c) (hp : WF p) :
    Calls Try.prog 35 #[(Value.agg #[.int .i64 c.n, .slice c.ga c.gs.length c.gc, .slice c.xa c.xs.length c.xc, .slice c.za c.zs.length c.zc]), (Value.agg #[.int .i64 p.n, .int .u64 p.x, .int .u64 p.z, .int .i64 p.ph])] w fun e w' => e = .returned (.int .i64 (err2 c p)) ∧ Below w.heap.size w w' := by
  have HBX := Lib.hid (Box2.start w c p)
  have hcc := fun W (h : Below w.heap.size w W) => check_c c W (hc.below h)
  have hpc := fun W => check_p p hp W
  have hn := hc.n
  clear hc
  by_cases A1 : Good c
  · have e1 : errC c = 0 := by simp [errC, A1]
    rw [e1] at hcc
    by_cases A2 : Ok p
    · have e2 : errP p = 0 := by simp [errP, A2]
      rw [e2] at hpc
      by_cases A3 : p.n = c.n
      · have e3 : err2 c p = 0 := by simp [err2, A1, A2, A3]
        rw [e3]
        have hpn : (p.n != c.n) = false := by simpa using A3
        clear A1 A2 A3 e1 e2 e3
        obtain ⟨n, ga, gc, gs, xa, xc, xs, za, zc, zs⟩ := c
        simp only at HBX hcc hn hpn
        go_enter Try.func35, Try.ntmps35
        go_wp2_with (first | (go_at_call 10; refine (hcc _ HBX.out.box.below).mono ?_; rintro e w' ⟨rfl, hb⟩; replace HBX := Lib.hid (HBX.out.step hb); clear hb; obtain ⟨⟨-, hltw, k0, k1, k2, k3⟩, ⟨p0, p1, p2, p3⟩, hltp⟩ := HBX.out) | (go_at_call 24; refine (hpc _).mono ?_; rintro e w' ⟨rfl, hb⟩; replace HBX := Lib.hid (HBX.out.step hb); clear hb; obtain ⟨⟨-, hltw, k0, k1, k2, k3⟩, ⟨p0, p1, p2, p3⟩, hltp⟩ := HBX.out))
        go_ret
        exact ⟨rfl, HBX.out.box.below⟩
      · have e3 : err2 c p = 2 := by simp [err2, A1, A2, A3]
        rw [e3]
        have hpn : (p.n != c.n) = true := by simpa using A3
        clear A1 A2 A3 e1 e2 e3
        obtain ⟨n, ga, gc, gs, xa, xc, xs, za, zc, zs⟩ := c
        simp only at HBX hcc hn hpn
        go_enter Try.func35, Try.ntmps35
        go_wp2_with (first | (go_at_call 10; refine (hcc _ HBX.out.box.below).mono ?_; rintro e w' ⟨rfl, hb⟩; replace HBX := Lib.hid (HBX.out.step hb); clear hb; obtain ⟨⟨-, hltw, k0, k1, k2, k3⟩, ⟨p0, p1, p2, p3⟩, hltp⟩ := HBX.out) | (go_at_call 24; refine (hpc _).mono ?_; rintro e w' ⟨rfl, hb⟩; replace HBX := Lib.hid (HBX.out.step hb); clear hb; obtain ⟨⟨-, hltw, k0, k1, k2, k3⟩, ⟨p0, p1, p2, p3⟩, hltp⟩ := HBX.out))
        go_ret
        exact ⟨rfl, HBX.out.box.below⟩
    · have e2 : errP p = 70 := by simp [errP, A2]
      have e3 : err2 c p = 70 := by simp [err2, A1, A2]
      rw [e2] at hpc
      rw [e3]
      clear A1 A2 e1 e2 e3
      obtain ⟨n, ga, gc, gs, xa, xc, xs, za, zc, zs⟩ := c
      simp only at HBX hcc hn
      go_enter Try.func35, Try.ntmps35
      go_wp2_with (first | (go_at_call 10; refine (hcc _ HBX.out.box.below).mono ?_; rintro e w' ⟨rfl, hb⟩; replace HBX := Lib.hid (HBX.out.step hb); clear hb; obtain ⟨⟨-, hltw, k0, k1, k2, k3⟩, ⟨p0, p1, p2, p3⟩, hltp⟩ := HBX.out) | (go_at_call 24; refine (hpc _).mono ?_; rintro e w' ⟨rfl, hb⟩; replace HBX := Lib.hid (HBX.out.step hb); clear hb; obtain ⟨⟨-, hltw, k0, k1, k2, k3⟩, ⟨p0, p1, p2, p3⟩, hltp⟩ := HBX.out))
      go_ret
      exact ⟨rfl, HBX.out.box.below⟩
  · have e1 : errC c = 230 := by simp [errC, A1]
    have e3 : err2 c p = 230 := by simp [err2, A1]
    rw [e1] at hcc
    rw [e3]
    clear A1 e1 e3
    obtain ⟨n, ga, gc, gs, xa, xc, xs, za, zc, zs⟩ := c
    simp only at HBX hcc hn
    go_enter Try.func35, Try.ntmps35
    go_wp2_with (first | (go_at_call 10; refine (hcc _ HBX.out.box.below).mono ?_; rintro e w' ⟨rfl, hb⟩; replace HBX := Lib.hid (HBX.out.step hb); clear hb; obtain ⟨⟨-, hltw, k0, k1, k2, k3⟩, ⟨p0, p1, p2, p3⟩, hltp⟩ := HBX.out) | (go_at_call 24; refine (hpc _).mono ?_; rintro e w' ⟨rfl, hb⟩; replace HBX := Lib.hid (HBX.out.step hb); clear hb; obtain ⟨⟨-, hltw, k0, k1, k2, k3⟩, ⟨p0, p1, p2, p3⟩, hltp⟩ := HBX.out))
    go_ret
    exact ⟨rfl, HBX.out.box.below⟩
set_option maxRecDepth 100000 in
set_option maxHeartbeats 4000000 in
theorem asked_calls (c : Cod) (p : Pau) (w : World) (hc : CodAt w c) (hp : WF p) :
    Calls Try.prog 37 #[(Value.agg #[.int .i64 c.n, .slice c.ga c.gs.length c.gc, .slice c.xa c.xs.length c.xc, .slice c.za c.zs.length c.zc]), (Value.agg #[.int .i64 p.n, .int .u64 p.x, .int .u64 p.z, .int .i64 p.ph])] w fun e w' => e = .returned (.int .i64 (err2 c p)) ∧ Below w.heap.size w w' := by
  have HBX := Lib.hid (Box2.start w c p)
  have hcc := fun W (h : Below w.heap.size w W) => refcheck_c c W (hc.below h)
  have hpc := fun W => refcheck_p p hp W
  have hn := hc.n
  clear hc
  by_cases A1 : Good c
  · have e1 : errC c = 0 := by simp [errC, A1]
    rw [e1] at hcc
    by_cases A2 : Ok p
    · have e2 : errP p = 0 := by simp [errP, A2]
      rw [e2] at hpc
      by_cases A3 : p.n = c.n
      · have e3 : err2 c p = 0 := by simp [err2, A1, A2, A3]
        rw [e3]
        have hpn : (p.n != c.n) = false := by simpa using A3
        clear A1 A2 A3 e1 e2 e3
        obtain ⟨n, ga, gc, gs, xa, xc, xs, za, zc, zs⟩ := c
        simp only at HBX hcc hn hpn
        go_enter Try.func37, Try.ntmps37
        go_wp2_with (first | (go_at_call 11; refine (hcc _ HBX.out.box.below).mono ?_; rintro e w' ⟨rfl, hb⟩; replace HBX := Lib.hid (HBX.out.step hb); clear hb; obtain ⟨⟨-, hltw, k0, k1, k2, k3⟩, ⟨p0, p1, p2, p3⟩, hltp⟩ := HBX.out) | (go_at_call 23; refine (hpc _).mono ?_; rintro e w' ⟨rfl, hb⟩; replace HBX := Lib.hid (HBX.out.step hb); clear hb; obtain ⟨⟨-, hltw, k0, k1, k2, k3⟩, ⟨p0, p1, p2, p3⟩, hltp⟩ := HBX.out))
        go_ret
        exact ⟨rfl, HBX.out.box.below⟩
      · have e3 : err2 c p = 2 := by simp [err2, A1, A2, A3]
        rw [e3]
        have hpn : (p.n != c.n) = true := by simpa using A3
        clear A1 A2 A3 e1 e2 e3
        obtain ⟨n, ga, gc, gs, xa, xc, xs, za, zc, zs⟩ := c
        simp only at HBX hcc hn hpn
        go_enter Try.func37, Try.ntmps37
        go_wp2_with (first | (go_at_call 11; refine (hcc _ HBX.out.box.below).mono ?_; rintro e w' ⟨rfl, hb⟩; replace HBX := Lib.hid (HBX.out.step hb); clear hb; obtain ⟨⟨-, hltw, k0, k1, k2, k3⟩, ⟨p0, p1, p2, p3⟩, hltp⟩ := HBX.out) | (go_at_call 23; refine (hpc _).mono ?_; rintro e w' ⟨rfl, hb⟩; replace HBX := Lib.hid (HBX.out.step hb); clear hb; obtain ⟨⟨-, hltw, k0, k1, k2, k3⟩, ⟨p0, p1, p2, p3⟩, hltp⟩ := HBX.out))
        go_ret
        exact ⟨rfl, HBX.out.box.below⟩
    · have e2 : errP p = 70 := by simp [errP, A2]
      have e3 : err2 c p = 70 := by simp [err2, A1, A2]
      rw [e2] at hpc
      rw [e3]
      clear A1 A2 e1 e2 e3
      obtain ⟨n, ga, gc, gs, xa, xc, xs, za, zc, zs⟩ := c
      simp only at HBX hcc hn
      go_enter Try.func37, Try.ntmps37
      go_wp2_with (first | (go_at_call 11; refine (hcc _ HBX.out.box.below).mono ?_; rintro e w' ⟨rfl, hb⟩; replace HBX := Lib.hid (HBX.out.step hb); clear hb; obtain ⟨⟨-, hltw, k0, k1, k2, k3⟩, ⟨p0, p1, p2, p3⟩, hltp⟩ := HBX.out) | (go_at_call 23; refine (hpc _).mono ?_; rintro e w' ⟨rfl, hb⟩; replace HBX := Lib.hid (HBX.out.step hb); clear hb; obtain ⟨⟨-, hltw, k0, k1, k2, k3⟩, ⟨p0, p1, p2, p3⟩, hltp⟩ := HBX.out))
      go_ret
      exact ⟨rfl, HBX.out.box.below⟩
  · have e1 : errC c = 230 := by simp [errC, A1]
    have e3 : err2 c p = 230 := by simp [err2, A1]
    rw [e1] at hcc
    rw [e3]
    clear A1 e1 e3
    obtain ⟨n, ga, gc, gs, xa, xc, xs, za, zc, zs⟩ := c
    simp only at HBX hcc hn
    go_enter Try.func37, Try.ntmps37
    go_wp2_with (first | (go_at_call 11; refine (hcc _ HBX.out.box.below).mono ?_; rintro e w' ⟨rfl, hb⟩; replace HBX := Lib.hid (HBX.out.step hb); clear hb; obtain ⟨⟨-, hltw, k0, k1, k2, k3⟩, ⟨p0, p1, p2, p3⟩, hltp⟩ := HBX.out) | (go_at_call 23; refine (hpc _).mono ?_; rintro e w' ⟨rfl, hb⟩; replace HBX := Lib.hid (HBX.out.step hb); clear hb; obtain ⟨⟨-, hltw, k0, k1, k2, k3⟩, ⟨p0, p1, p2, p3⟩, hltp⟩ := HBX.out))
    go_ret
    exact ⟨rfl, HBX.out.box.below⟩

theorem good_of_err2 {c : Cod} {p : Pau} (h : err2 c p = 0) : Good c ∧ Ok p ∧ p.n = c.n := by
  unfold err2 at h
  split at h
  · split at h
    · split at h
      · exact ⟨‹_›, ‹_›, ‹_›⟩
      · cases h
    · cases h
  · cases h
theorem Good.gl {c : Cod} (h : Good c) : c.gs.length ≤ 64 := by have h1 := h.len; have h2 := h.n2; omega
theorem Good.xl {c : Cod} (h : Good c) : c.xs.length ≤ 64 := by have h1 := h.len; have h2 := h.n2; omega
open Classical in
noncomputable def synV (c : Cod) (p : Pau) : Nat := if err2 c p = 0 then synd c.gs p else 0
open Classical in
noncomputable def logE (c : Cod) (p : Pau) : Int := if err2 c p = 0 then if synd c.gs p = 0 then 0 else 2 else err2 c p
open Classical in
noncomputable def logV (c : Cod) (p : Pau) : Pau := if err2 c p = 0 ∧ synd c.gs p = 0 then logic c.xs c.zs p else ⟨0, 0, 0, 0⟩
theorem err2_i64 (c : Cod) (p : Pau) : 0 ≤ err2 c p ∧ err2 c p ≤ 230 := by unfold err2; split <;> (try split) <;> (try split) <;> omega

set_option maxRecDepth 100000 in
set_option maxHeartbeats 4000000 in
theorem syndrome_calls (c : Cod) (p : Pau) (w : World) (hc : CodAt w c) (hp : WF p) :
    Calls Try.prog 12 #[(Value.agg #[.int .i64 c.n, .slice c.ga c.gs.length c.gc, .slice c.xa c.xs.length c.xc, .slice c.za c.zs.length c.zc]), (Value.agg #[.int .i64 p.n, .int .u64 p.x, .int .u64 p.z, .int .i64 p.ph])] w fun e w' => e = .returned (.tuple #[.int .u64 (synV c p), .int .i64 (err2 c p)]) ∧ Below w.heap.size w w' := by
  have HBX := Lib.hid (Box2.start w c p)
  have hcc := fun W (h : Below w.heap.size w W) => fault_calls c p W (hc.below h) hp
  by_cases A1 : err2 c p = 0
  · have hbb := fun W (h : Below w.heap.size w W) => broken_calls c p W (hc.below h) hp (good_of_err2 A1).1.gl
    have e1 : synV c p = synd c.gs p := by simp [synV, A1]
    rw [e1]
    rw [A1] at hcc
    rw [A1]
    clear A1 e1 hc
    obtain ⟨n, ga, gc, gs, xa, xc, xs, za, zc, zs⟩ := c
    simp only at HBX hcc hbb
    generalize synd _ p = s at hbb ⊢
    go_enter Try.func12, Try.ntmps12
    go_wp2_with (first | (go_at_call 35; refine (hcc _ HBX.out.box.below).mono ?_; rintro e w' ⟨rfl, hb⟩; replace HBX := Lib.hid (HBX.out.step hb); clear hb; obtain ⟨⟨-, hltw, k0, k1, k2, k3⟩, ⟨p0, p1, p2, p3⟩, hltp⟩ := HBX.out) | (go_at_call 36; refine (hbb _ HBX.out.box.below).mono ?_; rintro e w' ⟨rfl, hb⟩; replace HBX := Lib.hid (HBX.out.step hb); clear hb; obtain ⟨⟨-, hltw, k0, k1, k2, k3⟩, ⟨p0, p1, p2, p3⟩, hltp⟩ := HBX.out))
    refine bodyPost_ret (v := .tuple #[.int .u64 s, .int .i64 0]) (by simp [results, Try.results12, go_sem]) rfl ⟨rfl, HBX.out.box.below⟩
  · have e1 : synV c p = 0 := by simp [synV, A1]
    have hb := err2_i64 c p
    have hne : (err2 c p != 0) = true := by simpa using A1
    rw [e1]
    clear A1 e1 hc
    generalize err2 c p = r at hcc hb hne ⊢
    obtain ⟨n, ga, gc, gs, xa, xc, xs, za, zc, zs⟩ := c
    simp only at HBX hcc
    go_enter Try.func12, Try.ntmps12
    go_wp2_with (go_at_call 35; refine (hcc _ HBX.out.box.below).mono ?_; rintro e w' ⟨rfl, hb⟩; replace HBX := Lib.hid (HBX.out.step hb); clear hb; obtain ⟨⟨-, hltw, k0, k1, k2, k3⟩, ⟨p0, p1, p2, p3⟩, hltp⟩ := HBX.out)
    refine bodyPost_ret (v := .tuple #[.int .u64 0, .int .i64 r]) (by simp [results, Try.results12, go_sem]) rfl ⟨rfl, HBX.out.box.below⟩

set_option maxRecDepth 100000 in
set_option maxHeartbeats 4000000 in
theorem refsyndrome_calls (c : Cod) (p : Pau) (w : World) (hc : CodAt w c) (hp : WF p) :
    Calls Try.prog 13 #[(Value.agg #[.int .i64 c.n, .slice c.ga c.gs.length c.gc, .slice c.xa c.xs.length c.xc, .slice c.za c.zs.length c.zc]), (Value.agg #[.int .i64 p.n, .int .u64 p.x, .int .u64 p.z, .int .i64 p.ph])] w fun e w' => e = .returned (.tuple #[.int .u64 (synV c p), .int .i64 (err2 c p)]) ∧ Below w.heap.size w w' := by
  have HBX := Lib.hid (Box2.start w c p)
  have hcc := fun W (h : Below w.heap.size w W) => asked_calls c p W (hc.below h) hp
  by_cases A1 : err2 c p = 0
  · have hbb := fun W (h : Below w.heap.size w W) => refbroken_calls c p W (hc.below h) hp (good_of_err2 A1).1.gl
    have e1 : synV c p = synd c.gs p := by simp [synV, A1]
    rw [e1]
    rw [A1] at hcc
    rw [A1]
    clear A1 e1 hc
    obtain ⟨n, ga, gc, gs, xa, xc, xs, za, zc, zs⟩ := c
    simp only at HBX hcc hbb
    generalize synd _ p = s at hbb ⊢
    go_enter Try.func13, Try.ntmps13
    go_wp2_with (first | (go_at_call 37; refine (hcc _ HBX.out.box.below).mono ?_; rintro e w' ⟨rfl, hb⟩; replace HBX := Lib.hid (HBX.out.step hb); clear hb; obtain ⟨⟨-, hltw, k0, k1, k2, k3⟩, ⟨p0, p1, p2, p3⟩, hltp⟩ := HBX.out) | (go_at_call 38; refine (hbb _ HBX.out.box.below).mono ?_; rintro e w' ⟨rfl, hb⟩; replace HBX := Lib.hid (HBX.out.step hb); clear hb; obtain ⟨⟨-, hltw, k0, k1, k2, k3⟩, ⟨p0, p1, p2, p3⟩, hltp⟩ := HBX.out))
    refine bodyPost_ret (v := .tuple #[.int .u64 s, .int .i64 0]) (by simp [results, Try.results13, go_sem]) rfl ⟨rfl, HBX.out.box.below⟩
  · have e1 : synV c p = 0 := by simp [synV, A1]
    have hb := err2_i64 c p
    have hne : (err2 c p != 0) = true := by simpa using A1
    rw [e1]
    clear A1 e1 hc
    generalize err2 c p = r at hcc hb hne ⊢
    obtain ⟨n, ga, gc, gs, xa, xc, xs, za, zc, zs⟩ := c
    simp only at HBX hcc
    go_enter Try.func13, Try.ntmps13
    go_wp2_with (go_at_call 37; refine (hcc _ HBX.out.box.below).mono ?_; rintro e w' ⟨rfl, hb⟩; replace HBX := Lib.hid (HBX.out.step hb); clear hb; obtain ⟨⟨-, hltw, k0, k1, k2, k3⟩, ⟨p0, p1, p2, p3⟩, hltp⟩ := HBX.out)
    refine bodyPost_ret (v := .tuple #[.int .u64 0, .int .i64 r]) (by simp [results, Try.results13, go_sem]) rfl ⟨rfl, HBX.out.box.below⟩

end Go.Proofs.Ytfnmembjgclhoaa.CD
