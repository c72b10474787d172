/- cubitref23.Check, walked. -/
import Derived.Test.YtfnmembjgclhoaaCodG
import Derived.Test.YtfnmembjgclhoaaCodT
namespace Go.Proofs.Ytfnmembjgclhoaa.CD
open Go Go.RowKit
set_option linter.unusedVariables false
set_option linter.unusedSimpArgs false

structure Good (c : Cod) : Prop where
  n1 : 1 ≤ c.n
  n2 : c.n ≤ 64
  len : (c.gs.length : Int) + c.xs.length = c.n
  lz : c.zs.length = c.xs.length
  fg : ∀ p ∈ c.gs, Fit p c.n
  fx : ∀ p ∈ c.xs, Fit p c.n
  fz : ∀ p ∈ c.zs, Fit p c.n
  gg : ∀ p ∈ c.gs, ∀ q ∈ c.gs, apt p q = false
  gx : ∀ p ∈ c.gs, ∀ q ∈ c.xs, apt p q = false
  gz : ∀ p ∈ c.gs, ∀ q ∈ c.zs, apt p q = false
  xx : ∀ p ∈ c.xs, ∀ q ∈ c.xs, apt p q = false
  zz : ∀ p ∈ c.zs, ∀ q ∈ c.zs, apt p q = false
  xz : ∀ (i : Nat) (hi : i < c.xs.length) (j : Nat) (hj : j < c.zs.length), apt c.xs[i] c.zs[j] = decide (i = j)
  free : elim (c.gs.map CD.xz) = false

/-- A code's box, and nothing below touched. -/
structure BoxSt (w : World) (c : Cod) (W : World) : Prop where
  below : Below w.heap.size w W
  lt : w.heap.size < W.heap.size
  c0 : W.cell? ⟨w.heap.size, 0, none⟩ = some (.int .i64 c.n)
  c1 : W.cell? ⟨w.heap.size, 1, none⟩ = some (Value.slice c.ga c.gs.length c.gc)
  c2 : W.cell? ⟨w.heap.size, 2, none⟩ = some (Value.slice c.xa c.xs.length c.xc)
  c3 : W.cell? ⟨w.heap.size, 3, none⟩ = some (Value.slice c.za c.zs.length c.zc)
theorem BoxSt.start (w : World) (c : Cod) : BoxSt w c (w.alloc (.cells #[.int .i64 c.n, (Value.slice c.ga c.gs.length c.gc), (Value.slice c.xa c.xs.length c.xc), (Value.slice c.za c.zs.length c.zc)] 24)) :=
  ⟨below1 _ _, by simp, by simp, by simp, by simp, by simp⟩
theorem BoxSt.step {w W W' : World} {c : Cod} (h : BoxSt w c W) (hb : Below W.heap.size W W') : BoxSt w c W' :=
  ⟨h.below.trans (hb.mono h.below.size), Nat.lt_of_lt_of_le h.lt hb.size, (hb.cell (p := ⟨w.heap.size, 0, none⟩) h.lt).trans h.c0, (hb.cell (p := ⟨w.heap.size, 1, none⟩) h.lt).trans h.c1, (hb.cell (p := ⟨w.heap.size, 2, none⟩) h.lt).trans h.c2, (hb.cell (p := ⟨w.heap.size, 3, none⟩) h.lt).trans h.c3⟩

open Classical in
noncomputable def strs (l : List Pau) (n : Int) : Bool := decide (∀ p ∈ l, Fit p n)
open Classical in
noncomputable def alls (l l' : List Pau) : Bool := decide (∀ p ∈ l, ∀ q ∈ l', apt p q = false)
theorem strs_iff {l : List Pau} {n : Int} : strs l n = true ↔ ∀ p ∈ l, Fit p n := by simp [strs]
theorem alls_iff {l l' : List Pau} : alls l l' = true ↔ ∀ p ∈ l, ∀ q ∈ l', apt p q = false := by simp [alls]

set_option maxRecDepth 100000 in
set_option maxHeartbeats 4000000 in
theorem refcode_calls (c : Cod) (w : World) (hc : CodAt w c) (r : Int) (h0 : Good c → r = 0) (h1 : ¬ Good c → r = 230) :
    Calls Try.prog 11 #[(Value.agg #[.int .i64 c.n, .slice c.ga c.gs.length c.gc, .slice c.xa c.xs.length c.xc, .slice c.za c.zs.length c.zc])] w fun e w' => e = .returned (.int .i64 r) ∧ Below w.heap.size w w' := by
  have HC := Lib.hid hc
  have HBX := Lib.hid (BoxSt.start w c)
  have H0 := Lib.hid h0
  have H1 := Lib.hid h1
  have hs1 := fun W (h : Below w.heap.size w W) => strings_calls c.ga c.gc c.gs c.n W (hc.g.below h) (strs c.gs c.n) strs_iff
  have hs2 := fun W (h : Below w.heap.size w W) => strings_calls c.xa c.xc c.xs c.n W (hc.x.below h) (strs c.xs c.n) strs_iff
  have hs3 := fun W (h : Below w.heap.size w W) => strings_calls c.za c.zc c.zs c.n W (hc.z.below h) (strs c.zs c.n) strs_iff
  have ha1 := fun W (h : Below w.heap.size w W) => all_calls c.ga c.gc c.gs c.ga c.gc c.gs W (hc.g.below h) (hc.g.below h) (alls c.gs c.gs) alls_iff
  have ha2 := fun W (h : Below w.heap.size w W) => all_calls c.ga c.gc c.gs c.xa c.xc c.xs W (hc.g.below h) (hc.x.below h) (alls c.gs c.xs) alls_iff
  have ha3 := fun W (h : Below w.heap.size w W) => all_calls c.ga c.gc c.gs c.za c.zc c.zs W (hc.g.below h) (hc.z.below h) (alls c.gs c.zs) alls_iff
  have ha4 := fun W (h : Below w.heap.size w W) => all_calls c.xa c.xc c.xs c.xa c.xc c.xs W (hc.x.below h) (hc.x.below h) (alls c.xs c.xs) alls_iff
  have ha5 := fun W (h : Below w.heap.size w W) => all_calls c.za c.zc c.zs c.za c.zc c.zs W (hc.z.below h) (hc.z.below h) (alls c.zs c.zs) alls_iff
  have hf := fun W (h : Below w.heap.size w W) r hr => free_calls c.ga c.gc c.gs W (hc.g.below h) r hr
  have hsg := hc.g.small
  have hsx := hc.x.small
  have hsz := hc.z.small
  have hn := hc.n
  have bad : (¬ Good c) → .returned (.int .i64 (230 : Int)) = Ending.returned (.int .i64 r) := fun h => ret_int (h1 h).symm
  have mixed := mixed
  clear hc h0 h1
  obtain ⟨n, ga, gc, gs, xa, xc, xs, za, zc, zs⟩ := c
  simp only at HBX hs1 hs2 hs3 ha1 ha2 ha3 ha4 ha5 hf hsg hsx hsz hn
  have hnb : -9223372036854775808 ≤ n ∧ n ≤ 9223372036854775807 := hn
  obtain ⟨hn1, hn2⟩ := hnb
  clear hn
  by_cases A1 : n < 1
  · have HB : Hid _ := Lib.hid (bad fun h => by have := h.n1; simp only at this; omega)
    clear bad
    go_enter Try.func11, Try.ntmps11
    go_wp2
    go_ret
    exact ⟨HB.out, HBX.out.below⟩
  by_cases A2 : 64 < n
  · have HB : Hid _ := Lib.hid (bad fun h => by have := h.n2; simp only at this; omega)
    clear bad
    go_enter Try.func11, Try.ntmps11
    go_wp2
    go_ret
    exact ⟨HB.out, HBX.out.below⟩
  by_cases A3 : (gs.length : Int) + xs.length = n
  case neg =>
    have HB : Hid _ := Lib.hid (bad fun h => A3 h.len)
    clear bad
    go_enter Try.func11, Try.ntmps11
    go_wp2
    go_ret
    exact ⟨HB.out, HBX.out.below⟩
  by_cases A4 : xs.length = zs.length
  case neg =>
    have A4i : ¬ (xs.length : Int) = (zs.length : Int) := by omega
    have HB : Hid _ := Lib.hid (bad fun h => A4 h.lz.symm)
    clear bad
    go_enter Try.func11, Try.ntmps11
    go_wp2_with (first | (go_at_call 31; with_reducible refine (hs1 _ HBX.out.below).mono ?_; rintro e w' ⟨rfl, hb⟩; replace HBX := Lib.hid (HBX.out.step hb); clear hb; obtain ⟨-, -, k0, k1, k2, k3⟩ := HBX.out) | (go_at_call 31; with_reducible refine (hs2 _ HBX.out.below).mono ?_; rintro e w' ⟨rfl, hb⟩; replace HBX := Lib.hid (HBX.out.step hb); clear hb; obtain ⟨-, -, k0, k1, k2, k3⟩ := HBX.out) | (go_at_call 31; with_reducible refine (hs3 _ HBX.out.below).mono ?_; rintro e w' ⟨rfl, hb⟩; replace HBX := Lib.hid (HBX.out.step hb); clear hb; obtain ⟨-, -, k0, k1, k2, k3⟩ := HBX.out) | (go_at_call 32; with_reducible refine (ha1 _ HBX.out.below).mono ?_; rintro e w' ⟨rfl, hb⟩; replace HBX := Lib.hid (HBX.out.step hb); clear hb; obtain ⟨-, -, k0, k1, k2, k3⟩ := HBX.out) | (go_at_call 32; with_reducible refine (ha2 _ HBX.out.below).mono ?_; rintro e w' ⟨rfl, hb⟩; replace HBX := Lib.hid (HBX.out.step hb); clear hb; obtain ⟨-, -, k0, k1, k2, k3⟩ := HBX.out) | (go_at_call 32; with_reducible refine (ha3 _ HBX.out.below).mono ?_; rintro e w' ⟨rfl, hb⟩; replace HBX := Lib.hid (HBX.out.step hb); clear hb; obtain ⟨-, -, k0, k1, k2, k3⟩ := HBX.out) | (go_at_call 32; with_reducible refine (ha4 _ HBX.out.below).mono ?_; rintro e w' ⟨rfl, hb⟩; replace HBX := Lib.hid (HBX.out.step hb); clear hb; obtain ⟨-, -, k0, k1, k2, k3⟩ := HBX.out) | (go_at_call 32; with_reducible refine (ha5 _ HBX.out.below).mono ?_; rintro e w' ⟨rfl, hb⟩; replace HBX := Lib.hid (HBX.out.step hb); clear hb; obtain ⟨-, -, k0, k1, k2, k3⟩ := HBX.out))
    go_ret
    exact ⟨HB.out, HBX.out.below⟩
  obtain ⟨m, hm⟩ : ∃ m, m = xs.length := ⟨_, rfl⟩
  have hx : xs.length = m := hm.symm
  have hz : zs.length = m := by omega
  have HX := Lib.hid hx
  have HZ := Lib.hid hz
  have A4 := Lib.hid A4
  have A3' := Lib.hid A3
  simp only [hx, hz] at HBX hs2 hs3 ha2 ha3 ha4 ha5 hsx hsz A3
  clear hm
  cases ehs1 : strs gs n with
  | false =>
    rw [ehs1] at hs1
    have HB : Hid _ := Lib.hid (bad fun h => by have h2 := strs_iff.2 h.fg; rw [ehs1] at h2; cases h2)
    clear bad
    go_enter Try.func11, Try.ntmps11
    go_wp2_with (first | (go_at_call 31; with_reducible refine (hs1 _ HBX.out.below).mono ?_; rintro e w' ⟨rfl, hb⟩; replace HBX := Lib.hid (HBX.out.step hb); clear hb; obtain ⟨-, -, k0, k1, k2, k3⟩ := HBX.out) | (go_at_call 31; with_reducible refine (hs2 _ HBX.out.below).mono ?_; rintro e w' ⟨rfl, hb⟩; replace HBX := Lib.hid (HBX.out.step hb); clear hb; obtain ⟨-, -, k0, k1, k2, k3⟩ := HBX.out) | (go_at_call 31; with_reducible refine (hs3 _ HBX.out.below).mono ?_; rintro e w' ⟨rfl, hb⟩; replace HBX := Lib.hid (HBX.out.step hb); clear hb; obtain ⟨-, -, k0, k1, k2, k3⟩ := HBX.out) | (go_at_call 32; with_reducible refine (ha1 _ HBX.out.below).mono ?_; rintro e w' ⟨rfl, hb⟩; replace HBX := Lib.hid (HBX.out.step hb); clear hb; obtain ⟨-, -, k0, k1, k2, k3⟩ := HBX.out) | (go_at_call 32; with_reducible refine (ha2 _ HBX.out.below).mono ?_; rintro e w' ⟨rfl, hb⟩; replace HBX := Lib.hid (HBX.out.step hb); clear hb; obtain ⟨-, -, k0, k1, k2, k3⟩ := HBX.out) | (go_at_call 32; with_reducible refine (ha3 _ HBX.out.below).mono ?_; rintro e w' ⟨rfl, hb⟩; replace HBX := Lib.hid (HBX.out.step hb); clear hb; obtain ⟨-, -, k0, k1, k2, k3⟩ := HBX.out) | (go_at_call 32; with_reducible refine (ha4 _ HBX.out.below).mono ?_; rintro e w' ⟨rfl, hb⟩; replace HBX := Lib.hid (HBX.out.step hb); clear hb; obtain ⟨-, -, k0, k1, k2, k3⟩ := HBX.out) | (go_at_call 32; with_reducible refine (ha5 _ HBX.out.below).mono ?_; rintro e w' ⟨rfl, hb⟩; replace HBX := Lib.hid (HBX.out.step hb); clear hb; obtain ⟨-, -, k0, k1, k2, k3⟩ := HBX.out))
    go_ret
    exact ⟨HB.out, HBX.out.below⟩
  | true =>
  rw [ehs1] at hs1
  have Ehs1 := Lib.hid (strs_iff.1 ehs1)
  clear ehs1
  cases ehs2 : strs xs n with
  | false =>
    rw [ehs2] at hs2
    have HB : Hid _ := Lib.hid (bad fun h => by have h2 := strs_iff.2 h.fx; rw [ehs2] at h2; cases h2)
    clear bad
    go_enter Try.func11, Try.ntmps11
    go_wp2_with (first | (go_at_call 31; with_reducible refine (hs1 _ HBX.out.below).mono ?_; rintro e w' ⟨rfl, hb⟩; replace HBX := Lib.hid (HBX.out.step hb); clear hb; obtain ⟨-, -, k0, k1, k2, k3⟩ := HBX.out) | (go_at_call 31; with_reducible refine (hs2 _ HBX.out.below).mono ?_; rintro e w' ⟨rfl, hb⟩; replace HBX := Lib.hid (HBX.out.step hb); clear hb; obtain ⟨-, -, k0, k1, k2, k3⟩ := HBX.out) | (go_at_call 31; with_reducible refine (hs3 _ HBX.out.below).mono ?_; rintro e w' ⟨rfl, hb⟩; replace HBX := Lib.hid (HBX.out.step hb); clear hb; obtain ⟨-, -, k0, k1, k2, k3⟩ := HBX.out) | (go_at_call 32; with_reducible refine (ha1 _ HBX.out.below).mono ?_; rintro e w' ⟨rfl, hb⟩; replace HBX := Lib.hid (HBX.out.step hb); clear hb; obtain ⟨-, -, k0, k1, k2, k3⟩ := HBX.out) | (go_at_call 32; with_reducible refine (ha2 _ HBX.out.below).mono ?_; rintro e w' ⟨rfl, hb⟩; replace HBX := Lib.hid (HBX.out.step hb); clear hb; obtain ⟨-, -, k0, k1, k2, k3⟩ := HBX.out) | (go_at_call 32; with_reducible refine (ha3 _ HBX.out.below).mono ?_; rintro e w' ⟨rfl, hb⟩; replace HBX := Lib.hid (HBX.out.step hb); clear hb; obtain ⟨-, -, k0, k1, k2, k3⟩ := HBX.out) | (go_at_call 32; with_reducible refine (ha4 _ HBX.out.below).mono ?_; rintro e w' ⟨rfl, hb⟩; replace HBX := Lib.hid (HBX.out.step hb); clear hb; obtain ⟨-, -, k0, k1, k2, k3⟩ := HBX.out) | (go_at_call 32; with_reducible refine (ha5 _ HBX.out.below).mono ?_; rintro e w' ⟨rfl, hb⟩; replace HBX := Lib.hid (HBX.out.step hb); clear hb; obtain ⟨-, -, k0, k1, k2, k3⟩ := HBX.out))
    go_ret
    exact ⟨HB.out, HBX.out.below⟩
  | true =>
  rw [ehs2] at hs2
  have Ehs2 := Lib.hid (strs_iff.1 ehs2)
  clear ehs2
  cases ehs3 : strs zs n with
  | false =>
    rw [ehs3] at hs3
    have HB : Hid _ := Lib.hid (bad fun h => by have h2 := strs_iff.2 h.fz; rw [ehs3] at h2; cases h2)
    clear bad
    go_enter Try.func11, Try.ntmps11
    go_wp2_with (first | (go_at_call 31; with_reducible refine (hs1 _ HBX.out.below).mono ?_; rintro e w' ⟨rfl, hb⟩; replace HBX := Lib.hid (HBX.out.step hb); clear hb; obtain ⟨-, -, k0, k1, k2, k3⟩ := HBX.out) | (go_at_call 31; with_reducible refine (hs2 _ HBX.out.below).mono ?_; rintro e w' ⟨rfl, hb⟩; replace HBX := Lib.hid (HBX.out.step hb); clear hb; obtain ⟨-, -, k0, k1, k2, k3⟩ := HBX.out) | (go_at_call 31; with_reducible refine (hs3 _ HBX.out.below).mono ?_; rintro e w' ⟨rfl, hb⟩; replace HBX := Lib.hid (HBX.out.step hb); clear hb; obtain ⟨-, -, k0, k1, k2, k3⟩ := HBX.out) | (go_at_call 32; with_reducible refine (ha1 _ HBX.out.below).mono ?_; rintro e w' ⟨rfl, hb⟩; replace HBX := Lib.hid (HBX.out.step hb); clear hb; obtain ⟨-, -, k0, k1, k2, k3⟩ := HBX.out) | (go_at_call 32; with_reducible refine (ha2 _ HBX.out.below).mono ?_; rintro e w' ⟨rfl, hb⟩; replace HBX := Lib.hid (HBX.out.step hb); clear hb; obtain ⟨-, -, k0, k1, k2, k3⟩ := HBX.out) | (go_at_call 32; with_reducible refine (ha3 _ HBX.out.below).mono ?_; rintro e w' ⟨rfl, hb⟩; replace HBX := Lib.hid (HBX.out.step hb); clear hb; obtain ⟨-, -, k0, k1, k2, k3⟩ := HBX.out) | (go_at_call 32; with_reducible refine (ha4 _ HBX.out.below).mono ?_; rintro e w' ⟨rfl, hb⟩; replace HBX := Lib.hid (HBX.out.step hb); clear hb; obtain ⟨-, -, k0, k1, k2, k3⟩ := HBX.out) | (go_at_call 32; with_reducible refine (ha5 _ HBX.out.below).mono ?_; rintro e w' ⟨rfl, hb⟩; replace HBX := Lib.hid (HBX.out.step hb); clear hb; obtain ⟨-, -, k0, k1, k2, k3⟩ := HBX.out))
    go_ret
    exact ⟨HB.out, HBX.out.below⟩
  | true =>
  rw [ehs3] at hs3
  have Ehs3 := Lib.hid (strs_iff.1 ehs3)
  clear ehs3
  cases eha1 : alls gs gs with
  | false =>
    rw [eha1] at ha1
    have HB : Hid _ := Lib.hid (bad fun h => by have h2 := alls_iff.2 h.gg; rw [eha1] at h2; cases h2)
    clear bad
    go_enter Try.func11, Try.ntmps11
    go_wp2_with (first | (go_at_call 31; with_reducible refine (hs1 _ HBX.out.below).mono ?_; rintro e w' ⟨rfl, hb⟩; replace HBX := Lib.hid (HBX.out.step hb); clear hb; obtain ⟨-, -, k0, k1, k2, k3⟩ := HBX.out) | (go_at_call 31; with_reducible refine (hs2 _ HBX.out.below).mono ?_; rintro e w' ⟨rfl, hb⟩; replace HBX := Lib.hid (HBX.out.step hb); clear hb; obtain ⟨-, -, k0, k1, k2, k3⟩ := HBX.out) | (go_at_call 31; with_reducible refine (hs3 _ HBX.out.below).mono ?_; rintro e w' ⟨rfl, hb⟩; replace HBX := Lib.hid (HBX.out.step hb); clear hb; obtain ⟨-, -, k0, k1, k2, k3⟩ := HBX.out) | (go_at_call 32; with_reducible refine (ha1 _ HBX.out.below).mono ?_; rintro e w' ⟨rfl, hb⟩; replace HBX := Lib.hid (HBX.out.step hb); clear hb; obtain ⟨-, -, k0, k1, k2, k3⟩ := HBX.out) | (go_at_call 32; with_reducible refine (ha2 _ HBX.out.below).mono ?_; rintro e w' ⟨rfl, hb⟩; replace HBX := Lib.hid (HBX.out.step hb); clear hb; obtain ⟨-, -, k0, k1, k2, k3⟩ := HBX.out) | (go_at_call 32; with_reducible refine (ha3 _ HBX.out.below).mono ?_; rintro e w' ⟨rfl, hb⟩; replace HBX := Lib.hid (HBX.out.step hb); clear hb; obtain ⟨-, -, k0, k1, k2, k3⟩ := HBX.out) | (go_at_call 32; with_reducible refine (ha4 _ HBX.out.below).mono ?_; rintro e w' ⟨rfl, hb⟩; replace HBX := Lib.hid (HBX.out.step hb); clear hb; obtain ⟨-, -, k0, k1, k2, k3⟩ := HBX.out) | (go_at_call 32; with_reducible refine (ha5 _ HBX.out.below).mono ?_; rintro e w' ⟨rfl, hb⟩; replace HBX := Lib.hid (HBX.out.step hb); clear hb; obtain ⟨-, -, k0, k1, k2, k3⟩ := HBX.out))
    go_ret
    exact ⟨HB.out, HBX.out.below⟩
  | true =>
  rw [eha1] at ha1
  have Eha1 := Lib.hid (alls_iff.1 eha1)
  clear eha1
  cases eha2 : alls gs xs with
  | false =>
    rw [eha2] at ha2
    have HB : Hid _ := Lib.hid (bad fun h => by have h2 := alls_iff.2 h.gx; rw [eha2] at h2; cases h2)
    clear bad
    go_enter Try.func11, Try.ntmps11
    go_wp2_with (first | (go_at_call 31; with_reducible refine (hs1 _ HBX.out.below).mono ?_; rintro e w' ⟨rfl, hb⟩; replace HBX := Lib.hid (HBX.out.step hb); clear hb; obtain ⟨-, -, k0, k1, k2, k3⟩ := HBX.out) | (go_at_call 31; with_reducible refine (hs2 _ HBX.out.below).mono ?_; rintro e w' ⟨rfl, hb⟩; replace HBX := Lib.hid (HBX.out.step hb); clear hb; obtain ⟨-, -, k0, k1, k2, k3⟩ := HBX.out) | (go_at_call 31; with_reducible refine (hs3 _ HBX.out.below).mono ?_; rintro e w' ⟨rfl, hb⟩; replace HBX := Lib.hid (HBX.out.step hb); clear hb; obtain ⟨-, -, k0, k1, k2, k3⟩ := HBX.out) | (go_at_call 32; with_reducible refine (ha1 _ HBX.out.below).mono ?_; rintro e w' ⟨rfl, hb⟩; replace HBX := Lib.hid (HBX.out.step hb); clear hb; obtain ⟨-, -, k0, k1, k2, k3⟩ := HBX.out) | (go_at_call 32; with_reducible refine (ha2 _ HBX.out.below).mono ?_; rintro e w' ⟨rfl, hb⟩; replace HBX := Lib.hid (HBX.out.step hb); clear hb; obtain ⟨-, -, k0, k1, k2, k3⟩ := HBX.out) | (go_at_call 32; with_reducible refine (ha3 _ HBX.out.below).mono ?_; rintro e w' ⟨rfl, hb⟩; replace HBX := Lib.hid (HBX.out.step hb); clear hb; obtain ⟨-, -, k0, k1, k2, k3⟩ := HBX.out) | (go_at_call 32; with_reducible refine (ha4 _ HBX.out.below).mono ?_; rintro e w' ⟨rfl, hb⟩; replace HBX := Lib.hid (HBX.out.step hb); clear hb; obtain ⟨-, -, k0, k1, k2, k3⟩ := HBX.out) | (go_at_call 32; with_reducible refine (ha5 _ HBX.out.below).mono ?_; rintro e w' ⟨rfl, hb⟩; replace HBX := Lib.hid (HBX.out.step hb); clear hb; obtain ⟨-, -, k0, k1, k2, k3⟩ := HBX.out))
    go_ret
    exact ⟨HB.out, HBX.out.below⟩
  | true =>
  rw [eha2] at ha2
  have Eha2 := Lib.hid (alls_iff.1 eha2)
  clear eha2
  cases eha3 : alls gs zs with
  | false =>
    rw [eha3] at ha3
    have HB : Hid _ := Lib.hid (bad fun h => by have h2 := alls_iff.2 h.gz; rw [eha3] at h2; cases h2)
    clear bad
    go_enter Try.func11, Try.ntmps11
    go_wp2_with (first | (go_at_call 31; with_reducible refine (hs1 _ HBX.out.below).mono ?_; rintro e w' ⟨rfl, hb⟩; replace HBX := Lib.hid (HBX.out.step hb); clear hb; obtain ⟨-, -, k0, k1, k2, k3⟩ := HBX.out) | (go_at_call 31; with_reducible refine (hs2 _ HBX.out.below).mono ?_; rintro e w' ⟨rfl, hb⟩; replace HBX := Lib.hid (HBX.out.step hb); clear hb; obtain ⟨-, -, k0, k1, k2, k3⟩ := HBX.out) | (go_at_call 31; with_reducible refine (hs3 _ HBX.out.below).mono ?_; rintro e w' ⟨rfl, hb⟩; replace HBX := Lib.hid (HBX.out.step hb); clear hb; obtain ⟨-, -, k0, k1, k2, k3⟩ := HBX.out) | (go_at_call 32; with_reducible refine (ha1 _ HBX.out.below).mono ?_; rintro e w' ⟨rfl, hb⟩; replace HBX := Lib.hid (HBX.out.step hb); clear hb; obtain ⟨-, -, k0, k1, k2, k3⟩ := HBX.out) | (go_at_call 32; with_reducible refine (ha2 _ HBX.out.below).mono ?_; rintro e w' ⟨rfl, hb⟩; replace HBX := Lib.hid (HBX.out.step hb); clear hb; obtain ⟨-, -, k0, k1, k2, k3⟩ := HBX.out) | (go_at_call 32; with_reducible refine (ha3 _ HBX.out.below).mono ?_; rintro e w' ⟨rfl, hb⟩; replace HBX := Lib.hid (HBX.out.step hb); clear hb; obtain ⟨-, -, k0, k1, k2, k3⟩ := HBX.out) | (go_at_call 32; with_reducible refine (ha4 _ HBX.out.below).mono ?_; rintro e w' ⟨rfl, hb⟩; replace HBX := Lib.hid (HBX.out.step hb); clear hb; obtain ⟨-, -, k0, k1, k2, k3⟩ := HBX.out) | (go_at_call 32; with_reducible refine (ha5 _ HBX.out.below).mono ?_; rintro e w' ⟨rfl, hb⟩; replace HBX := Lib.hid (HBX.out.step hb); clear hb; obtain ⟨-, -, k0, k1, k2, k3⟩ := HBX.out))
    go_ret
    exact ⟨HB.out, HBX.out.below⟩
  | true =>
  rw [eha3] at ha3
  have Eha3 := Lib.hid (alls_iff.1 eha3)
  clear eha3
  cases eha4 : alls xs xs with
  | false =>
    rw [eha4] at ha4
    have HB : Hid _ := Lib.hid (bad fun h => by have h2 := alls_iff.2 h.xx; rw [eha4] at h2; cases h2)
    clear bad
    go_enter Try.func11, Try.ntmps11
    go_wp2_with (first | (go_at_call 31; with_reducible refine (hs1 _ HBX.out.below).mono ?_; rintro e w' ⟨rfl, hb⟩; replace HBX := Lib.hid (HBX.out.step hb); clear hb; obtain ⟨-, -, k0, k1, k2, k3⟩ := HBX.out) | (go_at_call 31; with_reducible refine (hs2 _ HBX.out.below).mono ?_; rintro e w' ⟨rfl, hb⟩; replace HBX := Lib.hid (HBX.out.step hb); clear hb; obtain ⟨-, -, k0, k1, k2, k3⟩ := HBX.out) | (go_at_call 31; with_reducible refine (hs3 _ HBX.out.below).mono ?_; rintro e w' ⟨rfl, hb⟩; replace HBX := Lib.hid (HBX.out.step hb); clear hb; obtain ⟨-, -, k0, k1, k2, k3⟩ := HBX.out) | (go_at_call 32; with_reducible refine (ha1 _ HBX.out.below).mono ?_; rintro e w' ⟨rfl, hb⟩; replace HBX := Lib.hid (HBX.out.step hb); clear hb; obtain ⟨-, -, k0, k1, k2, k3⟩ := HBX.out) | (go_at_call 32; with_reducible refine (ha2 _ HBX.out.below).mono ?_; rintro e w' ⟨rfl, hb⟩; replace HBX := Lib.hid (HBX.out.step hb); clear hb; obtain ⟨-, -, k0, k1, k2, k3⟩ := HBX.out) | (go_at_call 32; with_reducible refine (ha3 _ HBX.out.below).mono ?_; rintro e w' ⟨rfl, hb⟩; replace HBX := Lib.hid (HBX.out.step hb); clear hb; obtain ⟨-, -, k0, k1, k2, k3⟩ := HBX.out) | (go_at_call 32; with_reducible refine (ha4 _ HBX.out.below).mono ?_; rintro e w' ⟨rfl, hb⟩; replace HBX := Lib.hid (HBX.out.step hb); clear hb; obtain ⟨-, -, k0, k1, k2, k3⟩ := HBX.out) | (go_at_call 32; with_reducible refine (ha5 _ HBX.out.below).mono ?_; rintro e w' ⟨rfl, hb⟩; replace HBX := Lib.hid (HBX.out.step hb); clear hb; obtain ⟨-, -, k0, k1, k2, k3⟩ := HBX.out))
    go_ret
    exact ⟨HB.out, HBX.out.below⟩
  | true =>
  rw [eha4] at ha4
  have Eha4 := Lib.hid (alls_iff.1 eha4)
  clear eha4
  cases eha5 : alls zs zs with
  | false =>
    rw [eha5] at ha5
    have HB : Hid _ := Lib.hid (bad fun h => by have h2 := alls_iff.2 h.zz; rw [eha5] at h2; cases h2)
    clear bad
    go_enter Try.func11, Try.ntmps11
    go_wp2_with (first | (go_at_call 31; with_reducible refine (hs1 _ HBX.out.below).mono ?_; rintro e w' ⟨rfl, hb⟩; replace HBX := Lib.hid (HBX.out.step hb); clear hb; obtain ⟨-, -, k0, k1, k2, k3⟩ := HBX.out) | (go_at_call 31; with_reducible refine (hs2 _ HBX.out.below).mono ?_; rintro e w' ⟨rfl, hb⟩; replace HBX := Lib.hid (HBX.out.step hb); clear hb; obtain ⟨-, -, k0, k1, k2, k3⟩ := HBX.out) | (go_at_call 31; with_reducible refine (hs3 _ HBX.out.below).mono ?_; rintro e w' ⟨rfl, hb⟩; replace HBX := Lib.hid (HBX.out.step hb); clear hb; obtain ⟨-, -, k0, k1, k2, k3⟩ := HBX.out) | (go_at_call 32; with_reducible refine (ha1 _ HBX.out.below).mono ?_; rintro e w' ⟨rfl, hb⟩; replace HBX := Lib.hid (HBX.out.step hb); clear hb; obtain ⟨-, -, k0, k1, k2, k3⟩ := HBX.out) | (go_at_call 32; with_reducible refine (ha2 _ HBX.out.below).mono ?_; rintro e w' ⟨rfl, hb⟩; replace HBX := Lib.hid (HBX.out.step hb); clear hb; obtain ⟨-, -, k0, k1, k2, k3⟩ := HBX.out) | (go_at_call 32; with_reducible refine (ha3 _ HBX.out.below).mono ?_; rintro e w' ⟨rfl, hb⟩; replace HBX := Lib.hid (HBX.out.step hb); clear hb; obtain ⟨-, -, k0, k1, k2, k3⟩ := HBX.out) | (go_at_call 32; with_reducible refine (ha4 _ HBX.out.below).mono ?_; rintro e w' ⟨rfl, hb⟩; replace HBX := Lib.hid (HBX.out.step hb); clear hb; obtain ⟨-, -, k0, k1, k2, k3⟩ := HBX.out) | (go_at_call 32; with_reducible refine (ha5 _ HBX.out.below).mono ?_; rintro e w' ⟨rfl, hb⟩; replace HBX := Lib.hid (HBX.out.step hb); clear hb; obtain ⟨-, -, k0, k1, k2, k3⟩ := HBX.out))
    go_ret
    exact ⟨HB.out, HBX.out.below⟩
  | true =>
  rw [eha5] at ha5
  have Eha5 := Lib.hid (alls_iff.1 eha5)
  clear eha5
  have hgi : (m : Int) ≤ 64 := by omega
  go_enter Try.func11, Try.ntmps11
  go_wp2_with (first | (go_at_call 31; with_reducible refine (hs1 _ HBX.out.below).mono ?_; rintro e w' ⟨rfl, hb⟩; replace HBX := Lib.hid (HBX.out.step hb); clear hb; obtain ⟨-, -, k0, k1, k2, k3⟩ := HBX.out) | (go_at_call 31; with_reducible refine (hs2 _ HBX.out.below).mono ?_; rintro e w' ⟨rfl, hb⟩; replace HBX := Lib.hid (HBX.out.step hb); clear hb; obtain ⟨-, -, k0, k1, k2, k3⟩ := HBX.out) | (go_at_call 31; with_reducible refine (hs3 _ HBX.out.below).mono ?_; rintro e w' ⟨rfl, hb⟩; replace HBX := Lib.hid (HBX.out.step hb); clear hb; obtain ⟨-, -, k0, k1, k2, k3⟩ := HBX.out) | (go_at_call 32; with_reducible refine (ha1 _ HBX.out.below).mono ?_; rintro e w' ⟨rfl, hb⟩; replace HBX := Lib.hid (HBX.out.step hb); clear hb; obtain ⟨-, -, k0, k1, k2, k3⟩ := HBX.out) | (go_at_call 32; with_reducible refine (ha2 _ HBX.out.below).mono ?_; rintro e w' ⟨rfl, hb⟩; replace HBX := Lib.hid (HBX.out.step hb); clear hb; obtain ⟨-, -, k0, k1, k2, k3⟩ := HBX.out) | (go_at_call 32; with_reducible refine (ha3 _ HBX.out.below).mono ?_; rintro e w' ⟨rfl, hb⟩; replace HBX := Lib.hid (HBX.out.step hb); clear hb; obtain ⟨-, -, k0, k1, k2, k3⟩ := HBX.out) | (go_at_call 32; with_reducible refine (ha4 _ HBX.out.below).mono ?_; rintro e w' ⟨rfl, hb⟩; replace HBX := Lib.hid (HBX.out.step hb); clear hb; obtain ⟨-, -, k0, k1, k2, k3⟩ := HBX.out) | (go_at_call 32; with_reducible refine (ha5 _ HBX.out.below).mono ?_; rintro e w' ⟨rfl, hb⟩; replace HBX := Lib.hid (HBX.out.step hb); clear hb; obtain ⟨-, -, k0, k1, k2, k3⟩ := HBX.out))
  go_loopw [3] (fun s W => ∃ i : Nat, i ≤ m ∧ s = .int .i64 i ∧ (∀ (k : Nat) (hk : k < xs.length) (j : Nat) (hj : j < zs.length), k < i → apt xs[k] zs[j] = decide (k = j)) ∧ BoxSt w ⟨n, ga, gc, gs, xa, xc, xs, za, zc, zs⟩ W) (fun s _ => m - (intOf s).toNat)
  case atStart => exact ⟨0, Nat.zero_le _, rfl, fun k _ _ _ h => absurd h (Nat.not_lt_zero _), HBX.out⟩
  case round =>
    clear HBX
    obtain ⟨i, hi, rfl, hall, hbx⟩ := hrel
    have HALL := Lib.hid hall
    have HBX := Lib.hid hbx
    clear hall hbx
    obtain ⟨-, -, k0, k1, k2, k3⟩ := HBX.out
    by_cases hlt : i < m
    · obtain ⟨wo, rfl⟩ : ∃ wo : World, wo = wr := ⟨_, rfl⟩
      go_wp2
      go_loopw [4] (fun s W => ∃ j : Nat, j ≤ m ∧ s = .int .i64 j ∧ (∀ (k : Nat) (hk : k < zs.length), k < j → apt xs[i] zs[k] = decide (i = k)) ∧ BoxSt w ⟨n, ga, gc, gs, xa, xc, xs, za, zc, zs⟩ W) (fun s _ => m - (intOf s).toNat)
      case atStart => exact ⟨0, Nat.zero_le _, rfl, fun k _ h => absurd h (Nat.not_lt_zero _), HBX.out⟩
      case round =>
        clear HBX k0 k1 k2 k3
        obtain ⟨j, hj, rfl, hin, hbx⟩ := hrel
        have HIN := Lib.hid hin
        have HBX := Lib.hid hbx
        clear hin hbx
        obtain ⟨-, hltw, k0, k1, k2, k3⟩ := HBX.out
        by_cases hltj : j < m
        · have hltX : i < xs.length := by have := HX.out; omega
          have hltZ : j < zs.length := by have := HZ.out; omega
          have hR := HC.out.x.below HBX.out.below
          have hR' := HC.out.z.below HBX.out.below
          obtain ⟨b, o, hbl, hidx, hc0, hc1, hc2, hc3⟩ := hR.at i hltX
          obtain ⟨b', o', hbl', hidx', hd0, hd1, hd2, hd3⟩ := hR'.at j hltZ
          have hwf := HC.out.x.cell i hltX
          have hwf' := HC.out.z.cell j hltZ
          simp only [hx, hz] at hwf hwf' hidx hidx' hc0 hc1 hc2 hc3 hd0 hd1 hd2 hd3
          have hcc := fun W => commute_calls xs[i] zs[j] hwf hwf' W
          have HG := fun n os (b o : Nat) h => grown_old (w := wr) n os b o h
          clear hR hR' hwf hwf'
          by_cases hA : apt xs[i] zs[j] = decide (i = j)
          · have HJJ : Hid (∀ (k : Nat) (hk : k < zs.length), k < j + 1 → apt xs[i] zs[k] = decide (i = k)) := Lib.hid fun k hk hkj => by
              by_cases e : k = j
              · subst e; exact hA
              · exact HIN.out k hk (by omega)
            rw [hA] at hcc
            clear hA
            generalize hp : xs[i] = p at hcc hc0 hc1 hc2 hc3
            generalize hq : zs[j] = q at hcc hd0 hd1 hd2 hd3
            clear hp hq
            by_cases hij : i = j
            · subst hij
              simp only [decide_true, Bool.not_true] at hcc
              go_wp2_with fail
              go_quiet_grown (first | (go_at_call 33; with_reducible exact Calls.grown_of (hcc _)))
              go_wp2
              go_roundw
              case rel => exact ⟨i + 1, by omega, by go_num, HJJ.out, HBX.out.step (Grew.below ⟨_, _, rfl⟩)⟩
              case measure => simp [intOf]; omega
            · have hij2 : ((i : Int) == (j : Int)) = false := by simp; omega
              simp only [hij, decide_false, Bool.not_false] at hcc
              go_wp2_with fail
              go_quiet_grown (first | (go_at_call 33; with_reducible exact Calls.grown_of (hcc _)))
              go_wp2
              go_roundw
              case rel => exact ⟨j + 1, by omega, by go_num, HJJ.out, HBX.out.step (Grew.below ⟨_, _, rfl⟩)⟩
              case measure => simp [intOf]; omega
          · have HB : Hid _ := Lib.hid (bad fun h => hA (h.xz i hltX j hltZ))
            have hA2 : (!apt xs[i] zs[j]) = decide (i = j) := by
              revert hA
              cases apt xs[i] zs[j] <;> cases decide (i = j) <;> simp
            rw [hA2] at hcc
            clear hA hA2 bad
            generalize hp : xs[i] = p at hcc hc0 hc1 hc2 hc3
            generalize hq : zs[j] = q at hcc hd0 hd1 hd2 hd3
            clear hp hq
            by_cases hij : i = j
            · subst hij
              simp only [decide_true] at hcc
              go_wp2_with fail
              go_quiet_grown (first | (go_at_call 33; with_reducible exact Calls.grown_of (hcc _)))
              go_wp2
              go_ret
              exact ⟨HB.out, HBX.out.below.trans ((Grew.below ⟨_, _, rfl⟩).mono HBX.out.below.size)⟩
            · have hij2 : ((i : Int) == (j : Int)) = false := by simp; omega
              simp only [hij, decide_false] at hcc
              go_wp2_with fail
              go_quiet_grown (first | (go_at_call 33; with_reducible exact Calls.grown_of (hcc _)))
              go_wp2
              go_ret
              exact ⟨HB.out, HBX.out.below.trans ((Grew.below ⟨_, _, rfl⟩).mono HBX.out.below.size)⟩
        · have HJJ : Hid (∀ (k : Nat) (hk : k < xs.length) (j : Nat) (hj : j < zs.length), k < i + 1 → apt xs[k] zs[j] = decide (k = j)) := Lib.hid fun k hk q hq hki => by
            by_cases e : k = i
            · subst e; exact HIN.out q hq (by omega)
            · exact HALL.out k hk q hq (by omega)
          go_wp2
          go_roundw
          case rel => exact ⟨i + 1, by omega, by go_num, HJJ.out, HBX.out⟩
          case measure => simp [intOf]; omega
    · cases hE : elim (gs.map CD.xz) with
      | true =>
        have HB : Hid _ := Lib.hid (bad fun h => by have h2 := h.free; simp only at h2; rw [hE] at h2; cases h2)
        have hf2 := fun W h => hf W h false (by rw [hE]; rfl)
        clear hf bad hE
        go_wp2_with (go_at_call 34; with_reducible refine (hf2 _ HBX.out.below).mono ?_; rintro e w' ⟨rfl, hb⟩; replace HBX := Lib.hid (HBX.out.step hb); clear hb; obtain ⟨-, -, k0, k1, k2, k3⟩ := HBX.out)
        go_ret
        exact ⟨HB.out, HBX.out.below⟩
      | false =>
        have HR : Hid (r = 0) := Lib.hid (H0.out ⟨by show (1 : Int) ≤ n; omega, by show n ≤ (64 : Int); omega, A3'.out, A4.out.symm, Ehs1.out, Ehs2.out, Ehs3.out, Eha1.out, Eha2.out, Eha3.out, Eha4.out, Eha5.out, fun k hk m hm => HALL.out k hk m hm (by have : k < xs.length := hk; have := HX.out; omega), hE⟩)
        have hf2 := fun W h => hf W h true (by rw [hE]; rfl)
        clear hf bad hE
        go_wp2_with (go_at_call 34; with_reducible refine (hf2 _ HBX.out.below).mono ?_; rintro e w' ⟨rfl, hb⟩; replace HBX := Lib.hid (HBX.out.step hb); clear hb; obtain ⟨-, -, k0, k1, k2, k3⟩ := HBX.out)
        go_ret
        exact ⟨by rw [HR.out]; rfl, HBX.out.below⟩
end Go.Proofs.Ytfnmembjgclhoaa.CD
