/- Syndromes: what a string breaks. -/
import Derived.Test.YtfnmembjgclhoaaCodL
namespace Go.Proofs.Ytfnmembjgclhoaa.CD
open Go Go.RowKit
set_option linter.unusedVariables false
set_option linter.unusedSimpArgs false
open B (ofB)

/-- The word whose bits tell which of a list do not commute with p. -/
def aps (l : List Pau) (p : Pau) (i : Nat) : Bool := match l[i]? with | some g => apt g p | none => false
def synd (l : List Pau) (p : Pau) : Nat := ofB (aps l p) l.length
theorem aps_at {l : List Pau} {p : Pau} {i : Nat} (h : i < l.length) : aps l p i = apt l[i] p := by simp [aps, h]
theorem ofB_U (f : Nat → Bool) {n : Nat} (h : n ≤ 64) : U (ofB f n) := B.ofB_lt f n h
theorem shl1 {i : Nat} (hi : i < 64) : IntKind.u64.wrap (2 ^ i) = ((2 ^ i : Nat) : Int) := by
  rw [show ((2 : Int) ^ i) = ((2 ^ i : Nat) : Int) by push_cast; rfl]
  exact B.wrapn (Nat.pow_lt_pow_right (by decide) hi)
/-- s |= 1 << i. -/
theorem or_bit {f : Nat → Bool} {i : Nat} (hi : i < 64) (h : f i = true) : Go.bits .or .u64 ((ofB f i : Nat) : Int) (IntKind.u64.wrap (2 ^ i)) = ((ofB f (i + 1) : Nat) : Int) := by
  rw [shl1 hi, or_eq (ofB_U f (by omega)) (Nat.pow_lt_pow_right (by decide) hi), B.or_setB (B.ofB_lt' f i), B.ofB_succ, h]
theorem no_bit {f : Nat → Bool} {i : Nat} (h : f i = false) : ofB f i = ofB f (i + 1) := by
  rw [B.ofB_succ, h]; exact B.same_setB (B.ofB_lt' f i)
theorem below3 (w : World) (o o' o'' : Obj) : Below w.heap.size w (((w.alloc o).alloc o').alloc o'') := (((Below.refl _ _).alloc (Nat.le_refl _) _).alloc (by simp) _).alloc (by simp; omega) _

set_option maxRecDepth 100000 in
set_option maxHeartbeats 1000000 in
theorem broken_calls (c : Cod) (p : Pau) (w : World) (hc : CodAt w c) (hp : WF p) (hl : c.gs.length ≤ 64) :
    Calls Try.prog 36 #[(Value.agg #[.int .i64 c.n, .slice c.ga c.gs.length c.gc, .slice c.xa c.xs.length c.xc, .slice c.za c.zs.length c.zc]), (Value.agg #[.int .i64 p.n, .int .u64 p.x, .int .u64 p.z, .int .i64 p.ph])] w fun e w' => e = .returned (.int .u64 (synd c.gs p)) ∧ Below w.heap.size w w' := by
  have hb0 := below2 w (.cells #[.int .i64 c.n, (Value.slice c.ga c.gs.length c.gc), (Value.slice c.xa c.xs.length c.xc), (Value.slice c.za c.zs.length c.zc)] 24) (Obj.cells #[.int .i64 p.n, .int .u64 p.x, .int .u64 p.z, .int .i64 p.ph] 27)
  have HR := Lib.hid hc.g
  have HP := Lib.hid hp
  have HB0 := Lib.hid hb0
  have hlI : (c.gs.length : Int) ≤ 64 := by omega
  obtain ⟨gs, hgs⟩ : ∃ gs, gs = c.gs := ⟨_, rfl⟩
  obtain ⟨n, ga, gc, gs, xa, xc, xs, za, zc, zs⟩ := c
  simp only at hgs HR HB0 hlI hl
  subst hgs
  clear hc hp hb0
  go_enter Try.func36, Try.ntmps36
  go_wp2
  go_loopw [5, 11] (fun s i wr => ∃ j : Nat, j ≤ gs.length ∧ i = .int .i64 j ∧ s = .int .u64 ((ofB (aps gs p) j : Nat) : Int) ∧ Below w.heap.size w wr ∧ Cells4 wr (w.heap.size + 1) 0 p ∧ w.heap.size + 1 < wr.heap.size) (fun _ i _ => gs.length - (intOf i).toNat)
  case atStart => exact ⟨0, Nat.zero_le _, rfl, rfl, HB0.out, by simp [Cells4], by simp⟩
  case round =>
    obtain ⟨j, hj, rfl, rfl, hb, ⟨hp0, hp1, hp2, hp3⟩, hsz⟩ := hrel
    have HB := Lib.hid hb
    clear hb
    by_cases hlt : j < gs.length
    · have hR := HR.out.below HB.out
      obtain ⟨b, o, hbl, hidx, hc0, hc1, hc2, hc3⟩ := hR.at j hlt
      have hwf := HR.out.cell j hlt
      have hcc := fun W => apart_calls gs[j] p hwf HP.out W
      have hapt := aps_at (p := p) hlt
      have ho := or_bit (f := aps gs p) (i := j) (by omega)
      have hno := no_bit (f := aps gs p) (i := j)
      cases hA : apt gs[j] p with
      | false =>
        rw [hA] at hcc hapt
        have HNO := Lib.hid (hno hapt)
        have HC4 : Hid (Cells4 wr (w.heap.size + 1) 0 p) := Lib.hid ⟨hp0, hp1, hp2, hp3⟩
        clear hA hapt ho hno hwf hR
        generalize gs[j] = g at *
        go_wp2_with (go_at_call 29; refine (hcc _).mono ?_; rintro e w' ⟨rfl, hg⟩; obtain ⟨hbc, hbf⟩ := bcell hg.below; have HG := Lib.hid hg; clear hg)
        go_roundw
        case rel =>
          have hbw : Below wr.heap.size wr w' := (below1 wr _).trans (HG.out.below.mono (by simp))
          exact ⟨j + 1, by omega, by go_num, by rw [HNO.out], HB.out.trans (hbw.mono HB.out.size), HC4.out.below hsz hbw, Nat.lt_of_lt_of_le hsz hbw.size⟩
        case measure => simp [intOf]; omega
      | true =>
        rw [hA] at hcc hapt
        have HNO := Lib.hid (ho hapt)
        have HC4 : Hid (Cells4 wr (w.heap.size + 1) 0 p) := Lib.hid ⟨hp0, hp1, hp2, hp3⟩
        clear hA hapt ho hno hwf hR
        generalize gs[j] = g at *
        go_wp2_with (go_at_call 29; refine (hcc _).mono ?_; rintro e w' ⟨rfl, hg⟩; obtain ⟨hbc, hbf⟩ := bcell hg.below; have HG := Lib.hid hg; clear hg)
        go_roundw
        case rel =>
          have hbw : Below wr.heap.size wr w' := (below1 wr _).trans (HG.out.below.mono (by simp))
          exact ⟨j + 1, by omega, by go_num, by rw [HNO.out], HB.out.trans (hbw.mono HB.out.size), HC4.out.below hsz hbw, Nat.lt_of_lt_of_le hsz hbw.size⟩
        case measure => simp [intOf]; omega
    · obtain rfl : j = gs.length := by omega
      go_wp2
      go_ret
      exact ⟨rfl, HB.out⟩

set_option maxRecDepth 100000 in
set_option maxHeartbeats 1000000 in
theorem refbroken_calls (c : Cod) (p : Pau) (w : World) (hc : CodAt w c) (hp : WF p) (hl : c.gs.length ≤ 64) :
    Calls Try.prog 38 #[(Value.agg #[.int .i64 c.n, .slice c.ga c.gs.length c.gc, .slice c.xa c.xs.length c.xc, .slice c.za c.zs.length c.zc]), (Value.agg #[.int .i64 p.n, .int .u64 p.x, .int .u64 p.z, .int .i64 p.ph])] w fun e w' => e = .returned (.int .u64 (synd c.gs p)) ∧ Below w.heap.size w w' := by
  have hb0 := below2 w (.cells #[.int .i64 c.n, (Value.slice c.ga c.gs.length c.gc), (Value.slice c.xa c.xs.length c.xc), (Value.slice c.za c.zs.length c.zc)] 24) (Obj.cells #[.int .i64 p.n, .int .u64 p.x, .int .u64 p.z, .int .i64 p.ph] 27)
  have HR := Lib.hid hc.g
  have HP := Lib.hid hp
  have HB0 := Lib.hid hb0
  have hlI : (c.gs.length : Int) ≤ 64 := by omega
  obtain ⟨gs, hgs⟩ : ∃ gs, gs = c.gs := ⟨_, rfl⟩
  obtain ⟨n, ga, gc, gs, xa, xc, xs, za, zc, zs⟩ := c
  simp only at hgs HR HB0 hlI hl
  subst hgs
  have mixed := mixed
  clear hc hp hb0
  go_enter Try.func38, Try.ntmps38
  go_wp2
  go_loopw [5, 6] (fun s i wr => ∃ j : Nat, j ≤ gs.length ∧ i = .int .i64 j ∧ s = .int .u64 ((ofB (aps gs p) j : Nat) : Int) ∧ Below w.heap.size w wr ∧ Cells4 wr (w.heap.size + 1) 0 p ∧ wr.cell? ⟨w.heap.size, 1, none⟩ = some (Value.slice ga gs.length gc) ∧ w.heap.size + 1 < wr.heap.size) (fun _ i _ => gs.length - (intOf i).toNat)
  case atStart => exact ⟨0, Nat.zero_le _, rfl, rfl, HB0.out, by simp [Cells4], by simp, by simp⟩
  case round =>
    obtain ⟨j, hj, rfl, rfl, hb, ⟨hp0, hp1, hp2, hp3⟩, hg1, hsz⟩ := hrel
    have HB := Lib.hid hb
    clear hb
    by_cases hlt : j < gs.length
    · have hR := HR.out.below HB.out
      obtain ⟨b, o, hbl, hidx, hc0, hc1, hc2, hc3⟩ := hR.at j hlt
      have hwf := HR.out.cell j hlt
      have hcc := fun W => commute_calls gs[j] p hwf HP.out W
      have hapt := aps_at (p := p) hlt
      have ho := or_bit (f := aps gs p) (i := j) (by omega)
      have hno := no_bit (f := aps gs p) (i := j)
      have HG := fun n os (b o : Nat) h => grown_old (w := wr) n os b o h
      have hsz' : w.heap.size < wr.heap.size := by omega
      have HC4 : Hid (Cells4 wr (w.heap.size + 1) 0 p) := Lib.hid ⟨hp0, hp1, hp2, hp3⟩
      have HG1 := Lib.hid hg1
      cases hA : apt gs[j] p with
      | false =>
        rw [hA] at hcc hapt
        have HNO := Lib.hid (hno hapt)
        clear hA hapt ho hno hwf hR
        generalize gs[j] = g at *
        go_wp2_with fail
        go_quiet_grown (first | (go_at_call 33; with_reducible exact Calls.grown_of (hcc _)))
        go_wp2
        go_roundw
        case rel =>
          have hbw : Below wr.heap.size wr (Go.Sort.grow (wr.drewN nq) osq) := Grew.below ⟨_, _, rfl⟩
          exact ⟨j + 1, by omega, by go_num, by rw [HNO.out], HB.out.trans (hbw.mono HB.out.size), HC4.out.below hsz hbw, (hbw.cell (p := ⟨w.heap.size, 1, none⟩) hsz').trans HG1.out, Nat.lt_of_lt_of_le hsz hbw.size⟩
        case measure => simp [intOf]; omega
      | true =>
        rw [hA] at hcc hapt
        have HNO := Lib.hid (ho hapt)
        clear hA hapt ho hno hwf hR
        generalize gs[j] = g at *
        go_wp2_with fail
        go_quiet_grown (first | (go_at_call 33; with_reducible exact Calls.grown_of (hcc _)))
        go_wp2
        go_roundw
        case rel =>
          have hbw : Below wr.heap.size wr (Go.Sort.grow (wr.drewN nq) osq) := Grew.below ⟨_, _, rfl⟩
          exact ⟨j + 1, by omega, by go_num, by rw [HNO.out], HB.out.trans (hbw.mono HB.out.size), HC4.out.below hsz hbw, (hbw.cell (p := ⟨w.heap.size, 1, none⟩) hsz').trans HG1.out, Nat.lt_of_lt_of_le hsz hbw.size⟩
        case measure => simp [intOf]; omega
    · obtain rfl : j = gs.length := by omega
      go_wp2
      go_ret
      exact ⟨rfl, HB.out⟩
end Go.Proofs.Ytfnmembjgclhoaa.CD
