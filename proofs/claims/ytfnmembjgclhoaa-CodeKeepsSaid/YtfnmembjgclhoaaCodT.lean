/- What a string does to the logical qubits. -/
import Derived.Test.YtfnmembjgclhoaaCodS
namespace Go.Proofs.Ytfnmembjgclhoaa.CD
open Go Go.RowKit
set_option linter.unusedVariables false
set_option linter.unusedSimpArgs false
open B (ofB)

theorem apt_comm (a b : Pau) : apt a b = apt b a := by
  unfold apt
  rw [Nat.and_comm a.x, Nat.and_comm a.z, Nat.add_comm]
def logic (xs zs : List Pau) (p : Pau) : Pau := ⟨xs.length, ofB (aps zs p) xs.length, ofB (aps xs p) xs.length, 0⟩

structure DoneSt (w : World) (c : Cod) (p : Pau) (X Z : Nat) (wr : World) : Prop where
  hb : Below w.heap.size w wr
  p4 : Cells4 wr (w.heap.size + 1) 0 p
  cx : wr.cell? ⟨w.heap.size, 2, none⟩ = some (Value.slice c.xa c.xs.length c.xc)
  cz : wr.cell? ⟨w.heap.size, 3, none⟩ = some (Value.slice c.za c.zs.length c.zc)
  out : Cells4 wr (w.heap.size + 1 + 1 + 1) 0 ⟨c.xs.length, X, Z, 0⟩
  outf : ∀ i, wr.frozen? ⟨w.heap.size + 1 + 1 + 1, i, none⟩ = false
  res : Cells4 wr (w.heap.size + 1 + 1) 0 ⟨0, 0, 0, 0⟩
  resf : ∀ i, wr.frozen? ⟨w.heap.size + 1 + 1, i, none⟩ = false
  sz : w.heap.size + 1 + 1 + 1 < wr.heap.size

theorem DoneSt.grown {w wr wr' : World} {c : Cod} {p : Pau} {X Z : Nat} (h : DoneSt w c p X Z wr) (hg : Below wr.heap.size wr wr') : DoneSt w c p X Z wr' := by
  have hs := h.sz
  exact ⟨h.hb.trans (hg.mono h.hb.size), h.p4.below (by omega) hg, (hg.cell (p := ⟨w.heap.size, 2, none⟩) (show w.heap.size < _ by omega)).trans h.cx, (hg.cell (p := ⟨w.heap.size, 3, none⟩) (show w.heap.size < _ by omega)).trans h.cz, h.out.below hs hg, fun i => (hg.frozen (p := ⟨w.heap.size + 1 + 1 + 1, i, none⟩) hs).trans (h.outf i), h.res.below (by omega) hg, fun i => (hg.frozen (p := ⟨w.heap.size + 1 + 1, i, none⟩) (show w.heap.size + 1 + 1 < _ by omega)).trans (h.resf i), Nat.lt_of_lt_of_le hs hg.size⟩
theorem Cells4.other {w : World} {b o : Nat} {p : Pau} (h : Cells4 w b o p) {a : Addr} (v : Value) (ha : a.block ≠ b) : Cells4 (w.setCell a v) b o p :=
  ⟨(World.cell?_setCell_other _ _ _ _ (fun e => ha (by rw [e]))).trans h.1, (World.cell?_setCell_other _ _ _ _ (fun e => ha (by rw [e]))).trans h.2.1, (World.cell?_setCell_other _ _ _ _ (fun e => ha (by rw [e]))).trans h.2.2.1, (World.cell?_setCell_other _ _ _ _ (fun e => ha (by rw [e]))).trans h.2.2.2⟩
theorem Cells4.setX {w : World} {b : Nat} {n ph : Int} {x z x' : Nat} (h : Cells4 w b 0 ⟨n, x, z, ph⟩) : Cells4 (w.setCell ⟨b, 1, none⟩ (.int .u64 x')) b 0 ⟨n, x', z, ph⟩ :=
  ⟨(World.cell?_setCell_other _ _ _ _ (by simp)).trans h.1, World.cell?_setCell_same' _ _ _ (by rw [h.2.1]; rfl), (World.cell?_setCell_other _ _ _ _ (by simp)).trans h.2.2.1, (World.cell?_setCell_other _ _ _ _ (by simp)).trans h.2.2.2⟩
theorem Cells4.setZ {w : World} {b : Nat} {n ph : Int} {x z z' : Nat} (h : Cells4 w b 0 ⟨n, x, z, ph⟩) : Cells4 (w.setCell ⟨b, 2, none⟩ (.int .u64 z')) b 0 ⟨n, x, z', ph⟩ :=
  ⟨(World.cell?_setCell_other _ _ _ _ (by simp)).trans h.1, (World.cell?_setCell_other _ _ _ _ (by simp)).trans h.2.1, World.cell?_setCell_same' _ _ _ (by rw [h.2.2.1]; rfl), (World.cell?_setCell_other _ _ _ _ (by simp)).trans h.2.2.2⟩
theorem DoneSt.setX {w wr : World} {c : Cod} {p : Pau} {X Z X' : Nat} (h : DoneSt w c p X Z wr) : DoneSt w c p X' Z (wr.setCell ⟨w.heap.size + 1 + 1 + 1, 1, none⟩ (.int .u64 X')) :=
  ⟨h.hb.setCell (by simp; omega) _, h.p4.other _ (by simp; try omega), (World.cell?_setCell_other _ _ _ _ (by simp; try omega)).trans h.cx, (World.cell?_setCell_other _ _ _ _ (by simp; try omega)).trans h.cz, h.out.setX, fun i => by rw [World.frozen?_setCell]; exact h.outf i, h.res.other _ (by simp; try omega), fun i => by rw [World.frozen?_setCell]; exact h.resf i, by simpa using h.sz⟩
theorem DoneSt.setZ {w wr : World} {c : Cod} {p : Pau} {X Z Z' : Nat} (h : DoneSt w c p X Z wr) : DoneSt w c p X Z' (wr.setCell ⟨w.heap.size + 1 + 1 + 1, 2, none⟩ (.int .u64 Z')) :=
  ⟨h.hb.setCell (by simp; omega) _, h.p4.other _ (by simp; try omega), (World.cell?_setCell_other _ _ _ _ (by simp; try omega)).trans h.cx, (World.cell?_setCell_other _ _ _ _ (by simp; try omega)).trans h.cz, h.out.setZ, fun i => by rw [World.frozen?_setCell]; exact h.outf i, h.res.other _ (by simp; try omega), fun i => by rw [World.frozen?_setCell]; exact h.resf i, by simpa using h.sz⟩
theorem belowD4 (w : World) (a b c d : Obj) : Below w.heap.size w ((((w.alloc a).alloc b).alloc c).alloc d) := (((((Below.refl _ _).alloc (Nat.le_refl _) _).alloc (by simp) _).alloc (by simp; omega) _).alloc (by simp; omega) _)
theorem Cells4.drew {w : World} {b o : Nat} {p : Pau} (h : Cells4 w b o p) : Cells4 w.drew b o p := h
theorem DoneSt.drew {w wr : World} {c : Cod} {p : Pau} {X Z : Nat} (h : DoneSt w c p X Z wr) : DoneSt w c p X Z wr.drew := h.grown ⟨rfl, rfl, rfl, Nat.le_refl _, fun _ _ => rfl⟩

set_option maxRecDepth 100000 in
set_option maxHeartbeats 2000000 in
theorem done_calls (c : Cod) (p : Pau) (w : World) (hc : CodAt w c) (hp : WF p) (hl : c.xs.length ≤ 64) (hz : c.zs.length = c.xs.length) :
    Calls Try.prog 39 #[(Value.agg #[.int .i64 c.n, .slice c.ga c.gs.length c.gc, .slice c.xa c.xs.length c.xc, .slice c.za c.zs.length c.zc]), (Value.agg #[.int .i64 p.n, .int .u64 p.x, .int .u64 p.z, .int .i64 p.ph])] w fun e w' => e = .returned (Value.agg #[.int .i64 (logic c.xs c.zs p).n, .int .u64 (logic c.xs c.zs p).x, .int .u64 (logic c.xs c.zs p).z, .int .i64 (logic c.xs c.zs p).ph]) ∧ Below w.heap.size w w' := by
  have HX := Lib.hid hc.x
  have HZ := Lib.hid hc.z
  have HP := Lib.hid hp
  have hlI : (c.xs.length : Int) ≤ 64 := by omega
  have HZL := Lib.hid hz
  have hbd : ∀ (w : World), (Instr.build 27 #[(0, .int .i64 (c.xs.length : Int))]).run Try.prog w = .ok (.agg #[.int .i64 (c.xs.length : Int), .int .u64 0, .int .u64 0, .int .i64 0]) w := fun w => run_build w 27 _ _ (by kernel_rfl)
  have mixed := mixed
  clear hc hp hz
  go_enter Try.func39, Try.ntmps39
  go_wp2
  go_loopw [14] (fun i wr => ∃ j : Nat, j ≤ c.xs.length ∧ i = .int .i64 j ∧ DoneSt w c p (ofB (aps c.zs p) j) (ofB (aps c.xs p) j) wr) (fun i _ => c.xs.length - (intOf i).toNat)
  case atStart =>
    obtain ⟨f0, f1, f2, f3⟩ := four w (.cells #[.int .i64 c.n, (Value.slice c.ga c.gs.length c.gc), (Value.slice c.xa c.xs.length c.xc), (Value.slice c.za c.zs.length c.zc)] 24) (Obj.cells #[.int .i64 p.n, .int .u64 p.x, .int .u64 p.z, .int .i64 p.ph] 27) (.cells #[.int .i64 0, .int .u64 0, .int .u64 0, .int .i64 0] 27) (.cells #[.int .i64 (c.xs.length : Int), .int .u64 0, .int .u64 0, .int .i64 0] 27)
    exact ⟨0, Nat.zero_le _, rfl, belowD4 w _ _ _ _, Cells4.of f1, cell_of f0 rfl, cell_of f0 rfl, Cells4.of (p := ⟨c.xs.length, 0, 0, 0⟩) f3, fun i => free_of f3, Cells4.of (p := ⟨0, 0, 0, 0⟩) f2, fun i => free_of f2, by simp⟩
  case round =>
    obtain ⟨j, hj, rfl, hst⟩ := hrel
    have HST := Lib.hid hst
--<DONE
    obtain ⟨hb, ⟨hp0, hp1, hp2, hp3⟩, hcx, hcz, -, -, -, -, hsz⟩ := hst
    have HB := Lib.hid hb
    clear hb
    by_cases hlt : j < c.xs.length
    · obtain ⟨b, o, hbl0, hidx, hc⟩ := HX.out.at j hlt
      have hlt' : j < c.zs.length := by have := HZL.out; omega
      obtain ⟨b', o', hbl0', hidx', hd⟩ := HZ.out.at j hlt'
      obtain ⟨hc0, hc1, hc2, hc3⟩ := hc.below hbl0 HB.out
      obtain ⟨hd0, hd1, hd2, hd3⟩ := hd.below hbl0' HB.out
      have hbl := block_lt hc0
      have hbl' := block_lt hd0
      have hwx := HX.out.cell j hlt
      have hwz := HZ.out.cell j hlt'
      have hccx := fun W => apart_calls p c.xs[j] HP.out hwx W
      have hccz := fun W => apart_calls p c.zs[j] HP.out hwz W
      have hax := aps_at (p := p) hlt
      have haz := aps_at (p := p) hlt'
      rw [apt_comm] at hax haz
      have hox := or_bit (f := aps c.xs p) (i := j) (by omega)
      have hoz := or_bit (f := aps c.zs p) (i := j) (by omega)
      have hnx := no_bit (f := aps c.xs p) (i := j)
      have hnz := no_bit (f := aps c.zs p) (i := j)
      have HG := fun n os (b o : Nat) h => grown_old (w := wr) n os b o h
      have hs0 : w.heap.size < wr.heap.size := by omega
      have hs1 : w.heap.size + 1 < wr.heap.size := by omega
      have hbne : ∀ {w1 : World}, Below w.heap.size w w1 → w.heap.size + 1 + 1 + 1 ≠ b := fun _ => by omega
      clear hwx hwz hc hd
      cases hA : apt p c.zs[j] with
      | false =>
        cases hB : apt p c.xs[j] with
        | false =>
          rw [hA] at hccz haz
          rw [hB] at hccx hax
          have HNZ := Lib.hid (hnz haz)
          have HNX := Lib.hid (hnx hax)
          clear hA hB hax haz hox hoz hnx hnz
          generalize c.xs[j] = gx at *
          generalize c.zs[j] = gz at *
          go_wp2_with fail
          go_quiet_grown (first | (go_at_call 29; with_reducible exact Calls.grown_of (hccz _)))
          have H1 := Lib.hid (HST.out.grown (Grew.below ⟨nq, osq, rfl⟩))
          have HC1 := Lib.hid ((Cells4.below ⟨hc0, hc1, hc2, hc3⟩ hbl (Grew.below ⟨nq, osq, rfl⟩ : Below _ wr (Go.Sort.grow (wr.drewN nq) osq))))
          clear hp0 hp1 hp2 hp3 hcx hcz hc0 hc1 hc2 hc3 hd0 hd1 hd2 hd3 HG hsz hs0 hs1 hbl hbl' HST
          generalize Go.Sort.grow (wr.drewN nq) osq = w1 at H1 HC1 ⊢
          have hw1 := HNZ.out
          rw [hw1] at H1
          clear hw1
          have H2 := H1
          have HC2 := HC1
          clear H1 HC1
          obtain ⟨w2, rfl⟩ : ∃ w2, w2 = w1 := ⟨_, rfl⟩
          obtain ⟨-, ⟨hp0, hp1, hp2, hp3⟩, hcx, hcz, -, -, -, -, hsz⟩ := H2.out
          obtain ⟨hc0, hc1, hc2, hc3⟩ := HC2.out
          have hbl := block_lt hc0
          have HG := fun n os (b o : Nat) h => grown_old (w := w2) n os b o h
          have hs0 : w.heap.size < w2.heap.size := by omega
          have hs1 : w.heap.size + 1 < w2.heap.size := by omega
          go_wp2_with fail
          go_quiet_grown (first | (go_at_call 29; with_reducible exact Calls.grown_of (hccx _)))
          have H3 := Lib.hid (H2.out.grown (Grew.below ⟨nq, osq, rfl⟩))
          clear hp0 hp1 hp2 hp3 hcx hcz hc0 hc1 hc2 hc3 HG hsz hs0 hs1 hbl H2 HC2
          generalize Go.Sort.grow (w2.drewN nq) osq = w3 at H3 ⊢
          have hw1 := HNX.out
          rw [hw1] at H3
          clear hw1
          go_wp2_with fail
          go_roundw
          case rel => exact ⟨j + 1, by omega, by go_num, H3.out⟩
          case measure => simp [intOf]; omega
        | true =>
          rw [hA] at hccz haz
          rw [hB] at hccx hax
          have HNZ := Lib.hid (hnz haz)
          have HNX := Lib.hid (hox hax)
          clear hA hB hax haz hox hoz hnx hnz
          generalize c.xs[j] = gx at *
          generalize c.zs[j] = gz at *
          go_wp2_with fail
          go_quiet_grown (first | (go_at_call 29; with_reducible exact Calls.grown_of (hccz _)))
          have H1 := Lib.hid (HST.out.grown (Grew.below ⟨nq, osq, rfl⟩))
          have HC1 := Lib.hid ((Cells4.below ⟨hc0, hc1, hc2, hc3⟩ hbl (Grew.below ⟨nq, osq, rfl⟩ : Below _ wr (Go.Sort.grow (wr.drewN nq) osq))))
          clear hp0 hp1 hp2 hp3 hcx hcz hc0 hc1 hc2 hc3 hd0 hd1 hd2 hd3 HG hsz hs0 hs1 hbl hbl' HST
          generalize Go.Sort.grow (wr.drewN nq) osq = w1 at H1 HC1 ⊢
          have hw1 := HNZ.out
          rw [hw1] at H1
          clear hw1
          have H2 := H1
          have HC2 := HC1
          clear H1 HC1
          obtain ⟨w2, rfl⟩ : ∃ w2, w2 = w1 := ⟨_, rfl⟩
          obtain ⟨-, ⟨hp0, hp1, hp2, hp3⟩, hcx, hcz, -, -, -, -, hsz⟩ := H2.out
          obtain ⟨hc0, hc1, hc2, hc3⟩ := HC2.out
          have hbl := block_lt hc0
          have HG := fun n os (b o : Nat) h => grown_old (w := w2) n os b o h
          have hs0 : w.heap.size < w2.heap.size := by omega
          have hs1 : w.heap.size + 1 < w2.heap.size := by omega
          go_wp2_with fail
          go_quiet_grown (first | (go_at_call 29; with_reducible exact Calls.grown_of (hccx _)))
          have H3 := Lib.hid (H2.out.grown (Grew.below ⟨nq, osq, rfl⟩))
          clear hp0 hp1 hp2 hp3 hcx hcz hc0 hc1 hc2 hc3 HG hsz hs0 hs1 hbl H2 HC2
          generalize Go.Sort.grow (w2.drewN nq) osq = w3 at H3 ⊢
          obtain ⟨-, -, -, -, ⟨h0, h1, h2, h3⟩, hf, -, -, hz1⟩ := H3.out
          have hf2 := hf 2
          clear hf
          have hv := HNX.out
          go_wp2_with fail
          go_still_tail 6, (by kernel_rfl)
          have H4 := Lib.hid (H3.out.setZ (Z' := ofB (aps c.xs p) (j + 1))).drew
          clear H3
          go_wp2_with fail
          go_roundw
          case rel => exact ⟨j + 1, by omega, by go_num, H4.out⟩
          case measure => simp [intOf]; omega
      | true =>
        cases hB : apt p c.xs[j] with
        | false =>
          rw [hA] at hccz haz
          rw [hB] at hccx hax
          have HNZ := Lib.hid (hoz haz)
          have HNX := Lib.hid (hnx hax)
          clear hA hB hax haz hox hoz hnx hnz
          generalize c.xs[j] = gx at *
          generalize c.zs[j] = gz at *
          go_wp2_with fail
          go_quiet_grown (first | (go_at_call 29; with_reducible exact Calls.grown_of (hccz _)))
          have H1 := Lib.hid (HST.out.grown (Grew.below ⟨nq, osq, rfl⟩))
          have HC1 := Lib.hid ((Cells4.below ⟨hc0, hc1, hc2, hc3⟩ hbl (Grew.below ⟨nq, osq, rfl⟩ : Below _ wr (Go.Sort.grow (wr.drewN nq) osq))))
          clear hp0 hp1 hp2 hp3 hcx hcz hc0 hc1 hc2 hc3 hd0 hd1 hd2 hd3 HG hsz hs0 hs1 hbl hbl' HST
          generalize Go.Sort.grow (wr.drewN nq) osq = w1 at H1 HC1 ⊢
          obtain ⟨-, -, -, -, ⟨h0, h1, h2, h3⟩, hf, -, -, hz1⟩ := H1.out
          have hf1 := hf 1
          clear hf
          have hb1 : b < w1.heap.size := block_lt HC1.out.1
          have hne : w.heap.size + 1 + 1 + 1 ≠ b := hbne H1.out.hb
          have hv := HNZ.out
          go_wp2_with fail
          go_still_tail 6, (by kernel_rfl)
          go_wp2_with fail
          have H2 := Lib.hid (H1.out.setX (X' := ofB (aps c.zs p) (j + 1))).drew
          have HC2 := Lib.hid (Cells4.drew (HC1.out.other (a := ⟨w.heap.size + 1 + 1 + 1, 1, none⟩) (.int .u64 (ofB (aps c.zs p) (j + 1))) hne))
          clear H1 HC1 h0 h1 h2 h3 hf1 hz1 hb1 hne hv
          generalize (w1.setCell ⟨w.heap.size + 1 + 1 + 1, 1, none⟩ (.int .u64 (ofB (aps c.zs p) (j + 1)))).drew = w2 at H2 HC2 ⊢
          obtain ⟨-, ⟨hp0, hp1, hp2, hp3⟩, hcx, hcz, -, -, -, -, hsz⟩ := H2.out
          obtain ⟨hc0, hc1, hc2, hc3⟩ := HC2.out
          have hbl := block_lt hc0
          have HG := fun n os (b o : Nat) h => grown_old (w := w2) n os b o h
          have hs0 : w.heap.size < w2.heap.size := by omega
          have hs1 : w.heap.size + 1 < w2.heap.size := by omega
          go_wp2_with fail
          go_quiet_grown (first | (go_at_call 29; with_reducible exact Calls.grown_of (hccx _)))
          have H3 := Lib.hid (H2.out.grown (Grew.below ⟨nq, osq, rfl⟩))
          clear hp0 hp1 hp2 hp3 hcx hcz hc0 hc1 hc2 hc3 HG hsz hs0 hs1 hbl H2 HC2
          generalize Go.Sort.grow (w2.drewN nq) osq = w3 at H3 ⊢
          have hw1 := HNX.out
          rw [hw1] at H3
          clear hw1
          go_wp2_with fail
          go_roundw
          case rel => exact ⟨j + 1, by omega, by go_num, H3.out⟩
          case measure => simp [intOf]; omega
        | true =>
          rw [hA] at hccz haz
          rw [hB] at hccx hax
          have HNZ := Lib.hid (hoz haz)
          have HNX := Lib.hid (hox hax)
          clear hA hB hax haz hox hoz hnx hnz
          generalize c.xs[j] = gx at *
          generalize c.zs[j] = gz at *
          go_wp2_with fail
          go_quiet_grown (first | (go_at_call 29; with_reducible exact Calls.grown_of (hccz _)))
          have H1 := Lib.hid (HST.out.grown (Grew.below ⟨nq, osq, rfl⟩))
          have HC1 := Lib.hid ((Cells4.below ⟨hc0, hc1, hc2, hc3⟩ hbl (Grew.below ⟨nq, osq, rfl⟩ : Below _ wr (Go.Sort.grow (wr.drewN nq) osq))))
          clear hp0 hp1 hp2 hp3 hcx hcz hc0 hc1 hc2 hc3 hd0 hd1 hd2 hd3 HG hsz hs0 hs1 hbl hbl' HST
          generalize Go.Sort.grow (wr.drewN nq) osq = w1 at H1 HC1 ⊢
          obtain ⟨-, -, -, -, ⟨h0, h1, h2, h3⟩, hf, -, -, hz1⟩ := H1.out
          have hf1 := hf 1
          clear hf
          have hb1 : b < w1.heap.size := block_lt HC1.out.1
          have hne : w.heap.size + 1 + 1 + 1 ≠ b := hbne H1.out.hb
          have hv := HNZ.out
          go_wp2_with fail
          go_still_tail 6, (by kernel_rfl)
          go_wp2_with fail
          have H2 := Lib.hid (H1.out.setX (X' := ofB (aps c.zs p) (j + 1))).drew
          have HC2 := Lib.hid (Cells4.drew (HC1.out.other (a := ⟨w.heap.size + 1 + 1 + 1, 1, none⟩) (.int .u64 (ofB (aps c.zs p) (j + 1))) hne))
          clear H1 HC1 h0 h1 h2 h3 hf1 hz1 hb1 hne hv
          generalize (w1.setCell ⟨w.heap.size + 1 + 1 + 1, 1, none⟩ (.int .u64 (ofB (aps c.zs p) (j + 1)))).drew = w2 at H2 HC2 ⊢
          obtain ⟨-, ⟨hp0, hp1, hp2, hp3⟩, hcx, hcz, -, -, -, -, hsz⟩ := H2.out
          obtain ⟨hc0, hc1, hc2, hc3⟩ := HC2.out
          have hbl := block_lt hc0
          have HG := fun n os (b o : Nat) h => grown_old (w := w2) n os b o h
          have hs0 : w.heap.size < w2.heap.size := by omega
          have hs1 : w.heap.size + 1 < w2.heap.size := by omega
          go_wp2_with fail
          go_quiet_grown (first | (go_at_call 29; with_reducible exact Calls.grown_of (hccx _)))
          have H3 := Lib.hid (H2.out.grown (Grew.below ⟨nq, osq, rfl⟩))
          clear hp0 hp1 hp2 hp3 hcx hcz hc0 hc1 hc2 hc3 HG hsz hs0 hs1 hbl H2 HC2
          generalize Go.Sort.grow (w2.drewN nq) osq = w3 at H3 ⊢
          obtain ⟨-, -, -, -, ⟨h0, h1, h2, h3⟩, hf, -, -, hz1⟩ := H3.out
          have hf2 := hf 2
          clear hf
          have hv := HNX.out
          go_wp2_with fail
          go_still_tail 6, (by kernel_rfl)
          have H4 := Lib.hid (H3.out.setZ (Z' := ofB (aps c.xs p) (j + 1))).drew
          clear H3
          go_wp2_with fail
          go_roundw
          case rel => exact ⟨j + 1, by omega, by go_num, H4.out⟩
          case measure => simp [intOf]; omega
--DONE>
    · obtain rfl : j = c.xs.length := by omega
      obtain ⟨hb, -, hcx, hcz, ⟨h0, h1, h2, h3⟩, -, ⟨r0, r1, r2, r3⟩, hf, hsz⟩ := HST.out
      have HB2 := Lib.hid hb
      clear hb
      go_wp2_with fail
      refine bodyPost_ret (v := (Value.agg #[.int .i64 (logic c.xs c.zs p).n, .int .u64 (logic c.xs c.zs p).x, .int .u64 (logic c.xs c.zs p).z, .int .i64 (logic c.xs c.zs p).ph])) (by simp [results, Try.results39, go_sem, logic, h0, h1, h2, h3, r0, r1, r2, r3]) rfl ⟨rfl, ?_⟩
      exact (((HB2.out.setCell (by simp; omega) _).setCell (by simp; omega) _).setCell (by simp; omega) _).setCell (by simp; omega) _

set_option maxRecDepth 100000 in
set_option maxHeartbeats 2000000 in
theorem logical_calls (c : Cod) (p : Pau) (w : World) (hc : CodAt w c) (hp : WF p) (hl : c.xs.length ≤ 64) (hz : c.zs.length = c.xs.length) :
    Calls Try.prog 40 #[(Value.agg #[.int .i64 c.n, .slice c.ga c.gs.length c.gc, .slice c.xa c.xs.length c.xc, .slice c.za c.zs.length c.zc]), (Value.agg #[.int .i64 p.n, .int .u64 p.x, .int .u64 p.z, .int .i64 p.ph])] w fun e w' => e = .returned (Value.agg #[.int .i64 (logic c.xs c.zs p).n, .int .u64 (logic c.xs c.zs p).x, .int .u64 (logic c.xs c.zs p).z, .int .i64 (logic c.xs c.zs p).ph]) ∧ Below w.heap.size w w' := by
  have HX := Lib.hid hc.x
  have HZ := Lib.hid hc.z
  have HP := Lib.hid hp
  have hlI : (c.xs.length : Int) ≤ 64 := by omega
  have HZL := Lib.hid hz
  have hbd : ∀ (w : World), (Instr.build 27 #[(0, .int .i64 (c.xs.length : Int))]).run Try.prog w = .ok (.agg #[.int .i64 (c.xs.length : Int), .int .u64 0, .int .u64 0, .int .i64 0]) w := fun w => run_build w 27 _ _ (by kernel_rfl)
  have mixed := mixed
  clear hc hp hz
  go_enter Try.func40, Try.ntmps40
  go_wp2
  go_loopw [6] (fun i wr => ∃ j : Nat, j ≤ c.xs.length ∧ i = .int .i64 j ∧ DoneSt w c p (ofB (aps c.zs p) j) (ofB (aps c.xs p) j) wr) (fun i _ => c.xs.length - (intOf i).toNat)
  case atStart =>
    obtain ⟨f0, f1, f2, f3⟩ := four w (.cells #[.int .i64 c.n, (Value.slice c.ga c.gs.length c.gc), (Value.slice c.xa c.xs.length c.xc), (Value.slice c.za c.zs.length c.zc)] 24) (Obj.cells #[.int .i64 p.n, .int .u64 p.x, .int .u64 p.z, .int .i64 p.ph] 27) (.cells #[.int .i64 0, .int .u64 0, .int .u64 0, .int .i64 0] 27) (.cells #[.int .i64 (c.xs.length : Int), .int .u64 0, .int .u64 0, .int .i64 0] 27)
    exact ⟨0, Nat.zero_le _, rfl, belowD4 w _ _ _ _, Cells4.of f1, cell_of f0 rfl, cell_of f0 rfl, Cells4.of (p := ⟨c.xs.length, 0, 0, 0⟩) f3, fun i => free_of f3, Cells4.of (p := ⟨0, 0, 0, 0⟩) f2, fun i => free_of f2, by simp⟩
  case round =>
    obtain ⟨j, hj, rfl, hst⟩ := hrel
    have HST := Lib.hid hst
--<LOGICAL
    obtain ⟨hb, ⟨hp0, hp1, hp2, hp3⟩, hcx, hcz, -, -, -, -, hsz⟩ := hst
    have HB := Lib.hid hb
    clear hb
    by_cases hlt : j < c.xs.length
    · obtain ⟨b, o, hbl0, hidx, hc⟩ := HX.out.at j hlt
      have hlt' : j < c.zs.length := by have := HZL.out; omega
      obtain ⟨b', o', hbl0', hidx', hd⟩ := HZ.out.at j hlt'
      obtain ⟨hc0, hc1, hc2, hc3⟩ := hc.below hbl0 HB.out
      obtain ⟨hd0, hd1, hd2, hd3⟩ := hd.below hbl0' HB.out
      have hbl := block_lt hc0
      have hbl' := block_lt hd0
      have hwx := HX.out.cell j hlt
      have hwz := HZ.out.cell j hlt'
      have hccx := fun W => commute_calls c.xs[j] p hwx HP.out W
      have hccz := fun W => commute_calls c.zs[j] p hwz HP.out W
      have hax := aps_at (p := p) hlt
      have haz := aps_at (p := p) hlt'
      have hox := or_bit (f := aps c.xs p) (i := j) (by omega)
      have hoz := or_bit (f := aps c.zs p) (i := j) (by omega)
      have hnx := no_bit (f := aps c.xs p) (i := j)
      have hnz := no_bit (f := aps c.zs p) (i := j)
      have HG := fun n os (b o : Nat) h => grown_old (w := wr) n os b o h
      have hs0 : w.heap.size < wr.heap.size := by omega
      have hs1 : w.heap.size + 1 < wr.heap.size := by omega
      have hbne : ∀ {w1 : World}, Below w.heap.size w w1 → w.heap.size + 1 + 1 + 1 ≠ b := fun _ => by omega
      clear hwx hwz hc hd
      cases hA : apt c.zs[j] p with
      | false =>
        cases hB : apt c.xs[j] p with
        | false =>
          rw [hA] at hccz haz
          rw [hB] at hccx hax
          have HNZ := Lib.hid (hnz haz)
          have HNX := Lib.hid (hnx hax)
          clear hA hB hax haz hox hoz hnx hnz
          generalize c.xs[j] = gx at *
          generalize c.zs[j] = gz at *
          go_wp2_with fail
          go_quiet_grown (first | (go_at_call 33; with_reducible exact Calls.grown_of (hccz _)))
          have H1 := Lib.hid (HST.out.grown (Grew.below ⟨nq, osq, rfl⟩))
          have HC1 := Lib.hid ((Cells4.below ⟨hc0, hc1, hc2, hc3⟩ hbl (Grew.below ⟨nq, osq, rfl⟩ : Below _ wr (Go.Sort.grow (wr.drewN nq) osq))))
          clear hp0 hp1 hp2 hp3 hcx hcz hc0 hc1 hc2 hc3 hd0 hd1 hd2 hd3 HG hsz hs0 hs1 hbl hbl' HST
          generalize Go.Sort.grow (wr.drewN nq) osq = w1 at H1 HC1 ⊢
          have hw1 := HNZ.out
          rw [hw1] at H1
          clear hw1
          have H2 := H1
          have HC2 := HC1
          clear H1 HC1
          obtain ⟨w2, rfl⟩ : ∃ w2, w2 = w1 := ⟨_, rfl⟩
          obtain ⟨-, ⟨hp0, hp1, hp2, hp3⟩, hcx, hcz, -, -, -, -, hsz⟩ := H2.out
          obtain ⟨hc0, hc1, hc2, hc3⟩ := HC2.out
          have hbl := block_lt hc0
          have HG := fun n os (b o : Nat) h => grown_old (w := w2) n os b o h
          have hs0 : w.heap.size < w2.heap.size := by omega
          have hs1 : w.heap.size + 1 < w2.heap.size := by omega
          go_wp2_with fail
          go_quiet_grown (first | (go_at_call 33; with_reducible exact Calls.grown_of (hccx _)))
          have H3 := Lib.hid (H2.out.grown (Grew.below ⟨nq, osq, rfl⟩))
          clear hp0 hp1 hp2 hp3 hcx hcz hc0 hc1 hc2 hc3 HG hsz hs0 hs1 hbl H2 HC2
          generalize Go.Sort.grow (w2.drewN nq) osq = w3 at H3 ⊢
          have hw1 := HNX.out
          rw [hw1] at H3
          clear hw1
          go_wp2_with fail
          go_roundw
          case rel => exact ⟨j + 1, by omega, by go_num, H3.out⟩
          case measure => simp [intOf]; omega
        | true =>
          rw [hA] at hccz haz
          rw [hB] at hccx hax
          have HNZ := Lib.hid (hnz haz)
          have HNX := Lib.hid (hox hax)
          clear hA hB hax haz hox hoz hnx hnz
          generalize c.xs[j] = gx at *
          generalize c.zs[j] = gz at *
          go_wp2_with fail
          go_quiet_grown (first | (go_at_call 33; with_reducible exact Calls.grown_of (hccz _)))
          have H1 := Lib.hid (HST.out.grown (Grew.below ⟨nq, osq, rfl⟩))
          have HC1 := Lib.hid ((Cells4.below ⟨hc0, hc1, hc2, hc3⟩ hbl (Grew.below ⟨nq, osq, rfl⟩ : Below _ wr (Go.Sort.grow (wr.drewN nq) osq))))
          clear hp0 hp1 hp2 hp3 hcx hcz hc0 hc1 hc2 hc3 hd0 hd1 hd2 hd3 HG hsz hs0 hs1 hbl hbl' HST
          generalize Go.Sort.grow (wr.drewN nq) osq = w1 at H1 HC1 ⊢
          have hw1 := HNZ.out
          rw [hw1] at H1
          clear hw1
          have H2 := H1
          have HC2 := HC1
          clear H1 HC1
          obtain ⟨w2, rfl⟩ : ∃ w2, w2 = w1 := ⟨_, rfl⟩
          obtain ⟨-, ⟨hp0, hp1, hp2, hp3⟩, hcx, hcz, -, -, -, -, hsz⟩ := H2.out
          obtain ⟨hc0, hc1, hc2, hc3⟩ := HC2.out
          have hbl := block_lt hc0
          have HG := fun n os (b o : Nat) h => grown_old (w := w2) n os b o h
          have hs0 : w.heap.size < w2.heap.size := by omega
          have hs1 : w.heap.size + 1 < w2.heap.size := by omega
          go_wp2_with fail
          go_quiet_grown (first | (go_at_call 33; with_reducible exact Calls.grown_of (hccx _)))
          have H3 := Lib.hid (H2.out.grown (Grew.below ⟨nq, osq, rfl⟩))
          clear hp0 hp1 hp2 hp3 hcx hcz hc0 hc1 hc2 hc3 HG hsz hs0 hs1 hbl H2 HC2
          generalize Go.Sort.grow (w2.drewN nq) osq = w3 at H3 ⊢
          obtain ⟨-, -, -, -, ⟨h0, h1, h2, h3⟩, hf, -, -, hz1⟩ := H3.out
          have hf2 := hf 2
          clear hf
          have hv := HNX.out
          go_wp2_with fail
          go_still_tail 6, (by kernel_rfl)
          have H4 := Lib.hid (H3.out.setZ (Z' := ofB (aps c.xs p) (j + 1))).drew
          clear H3
          go_wp2_with fail
          go_roundw
          case rel => exact ⟨j + 1, by omega, by go_num, H4.out⟩
          case measure => simp [intOf]; omega
      | true =>
        cases hB : apt c.xs[j] p with
        | false =>
          rw [hA] at hccz haz
          rw [hB] at hccx hax
          have HNZ := Lib.hid (hoz haz)
          have HNX := Lib.hid (hnx hax)
          clear hA hB hax haz hox hoz hnx hnz
          generalize c.xs[j] = gx at *
          generalize c.zs[j] = gz at *
          go_wp2_with fail
          go_quiet_grown (first | (go_at_call 33; with_reducible exact Calls.grown_of (hccz _)))
          have H1 := Lib.hid (HST.out.grown (Grew.below ⟨nq, osq, rfl⟩))
          have HC1 := Lib.hid ((Cells4.below ⟨hc0, hc1, hc2, hc3⟩ hbl (Grew.below ⟨nq, osq, rfl⟩ : Below _ wr (Go.Sort.grow (wr.drewN nq) osq))))
          clear hp0 hp1 hp2 hp3 hcx hcz hc0 hc1 hc2 hc3 hd0 hd1 hd2 hd3 HG hsz hs0 hs1 hbl hbl' HST
          generalize Go.Sort.grow (wr.drewN nq) osq = w1 at H1 HC1 ⊢
          obtain ⟨-, -, -, -, ⟨h0, h1, h2, h3⟩, hf, -, -, hz1⟩ := H1.out
          have hf1 := hf 1
          clear hf
          have hb1 : b < w1.heap.size := block_lt HC1.out.1
          have hne : w.heap.size + 1 + 1 + 1 ≠ b := hbne H1.out.hb
          have hv := HNZ.out
          go_wp2_with fail
          go_still_tail 6, (by kernel_rfl)
          go_wp2_with fail
          have H2 := Lib.hid (H1.out.setX (X' := ofB (aps c.zs p) (j + 1))).drew
          have HC2 := Lib.hid (Cells4.drew (HC1.out.other (a := ⟨w.heap.size + 1 + 1 + 1, 1, none⟩) (.int .u64 (ofB (aps c.zs p) (j + 1))) hne))
          clear H1 HC1 h0 h1 h2 h3 hf1 hz1 hb1 hne hv
          generalize (w1.setCell ⟨w.heap.size + 1 + 1 + 1, 1, none⟩ (.int .u64 (ofB (aps c.zs p) (j + 1)))).drew = w2 at H2 HC2 ⊢
          obtain ⟨-, ⟨hp0, hp1, hp2, hp3⟩, hcx, hcz, -, -, -, -, hsz⟩ := H2.out
          obtain ⟨hc0, hc1, hc2, hc3⟩ := HC2.out
          have hbl := block_lt hc0
          have HG := fun n os (b o : Nat) h => grown_old (w := w2) n os b o h
          have hs0 : w.heap.size < w2.heap.size := by omega
          have hs1 : w.heap.size + 1 < w2.heap.size := by omega
          go_wp2_with fail
          go_quiet_grown (first | (go_at_call 33; with_reducible exact Calls.grown_of (hccx _)))
          have H3 := Lib.hid (H2.out.grown (Grew.below ⟨nq, osq, rfl⟩))
          clear hp0 hp1 hp2 hp3 hcx hcz hc0 hc1 hc2 hc3 HG hsz hs0 hs1 hbl H2 HC2
          generalize Go.Sort.grow (w2.drewN nq) osq = w3 at H3 ⊢
          have hw1 := HNX.out
          rw [hw1] at H3
          clear hw1
          go_wp2_with fail
          go_roundw
          case rel => exact ⟨j + 1, by omega, by go_num, H3.out⟩
          case measure => simp [intOf]; omega
        | true =>
          rw [hA] at hccz haz
          rw [hB] at hccx hax
          have HNZ := Lib.hid (hoz haz)
          have HNX := Lib.hid (hox hax)
          clear hA hB hax haz hox hoz hnx hnz
          generalize c.xs[j] = gx at *
          generalize c.zs[j] = gz at *
          go_wp2_with fail
          go_quiet_grown (first | (go_at_call 33; with_reducible exact Calls.grown_of (hccz _)))
          have H1 := Lib.hid (HST.out.grown (Grew.below ⟨nq, osq, rfl⟩))
          have HC1 := Lib.hid ((Cells4.below ⟨hc0, hc1, hc2, hc3⟩ hbl (Grew.below ⟨nq, osq, rfl⟩ : Below _ wr (Go.Sort.grow (wr.drewN nq) osq))))
          clear hp0 hp1 hp2 hp3 hcx hcz hc0 hc1 hc2 hc3 hd0 hd1 hd2 hd3 HG hsz hs0 hs1 hbl hbl' HST
          generalize Go.Sort.grow (wr.drewN nq) osq = w1 at H1 HC1 ⊢
          obtain ⟨-, -, -, -, ⟨h0, h1, h2, h3⟩, hf, -, -, hz1⟩ := H1.out
          have hf1 := hf 1
          clear hf
          have hb1 : b < w1.heap.size := block_lt HC1.out.1
          have hne : w.heap.size + 1 + 1 + 1 ≠ b := hbne H1.out.hb
          have hv := HNZ.out
          go_wp2_with fail
          go_still_tail 6, (by kernel_rfl)
          go_wp2_with fail
          have H2 := Lib.hid (H1.out.setX (X' := ofB (aps c.zs p) (j + 1))).drew
          have HC2 := Lib.hid (Cells4.drew (HC1.out.other (a := ⟨w.heap.size + 1 + 1 + 1, 1, none⟩) (.int .u64 (ofB (aps c.zs p) (j + 1))) hne))
          clear H1 HC1 h0 h1 h2 h3 hf1 hz1 hb1 hne hv
          generalize (w1.setCell ⟨w.heap.size + 1 + 1 + 1, 1, none⟩ (.int .u64 (ofB (aps c.zs p) (j + 1)))).drew = w2 at H2 HC2 ⊢
          obtain ⟨-, ⟨hp0, hp1, hp2, hp3⟩, hcx, hcz, -, -, -, -, hsz⟩ := H2.out
          obtain ⟨hc0, hc1, hc2, hc3⟩ := HC2.out
          have hbl := block_lt hc0
          have HG := fun n os (b o : Nat) h => grown_old (w := w2) n os b o h
          have hs0 : w.heap.size < w2.heap.size := by omega
          have hs1 : w.heap.size + 1 < w2.heap.size := by omega
          go_wp2_with fail
          go_quiet_grown (first | (go_at_call 33; with_reducible exact Calls.grown_of (hccx _)))
          have H3 := Lib.hid (H2.out.grown (Grew.below ⟨nq, osq, rfl⟩))
          clear hp0 hp1 hp2 hp3 hcx hcz hc0 hc1 hc2 hc3 HG hsz hs0 hs1 hbl H2 HC2
          generalize Go.Sort.grow (w2.drewN nq) osq = w3 at H3 ⊢
          obtain ⟨-, -, -, -, ⟨h0, h1, h2, h3⟩, hf, -, -, hz1⟩ := H3.out
          have hf2 := hf 2
          clear hf
          have hv := HNX.out
          go_wp2_with fail
          go_still_tail 6, (by kernel_rfl)
          have H4 := Lib.hid (H3.out.setZ (Z' := ofB (aps c.xs p) (j + 1))).drew
          clear H3
          go_wp2_with fail
          go_roundw
          case rel => exact ⟨j + 1, by omega, by go_num, H4.out⟩
          case measure => simp [intOf]; omega
--LOGICAL>
    · obtain rfl : j = c.xs.length := by omega
      obtain ⟨hb, -, hcx, hcz, ⟨h0, h1, h2, h3⟩, -, ⟨r0, r1, r2, r3⟩, hf, hsz⟩ := HST.out
      have HB2 := Lib.hid hb
      clear hb
      go_wp2_with fail
      refine bodyPost_ret (v := (Value.agg #[.int .i64 (logic c.xs c.zs p).n, .int .u64 (logic c.xs c.zs p).x, .int .u64 (logic c.xs c.zs p).z, .int .i64 (logic c.xs c.zs p).ph])) (by simp [results, Try.results40, go_sem, logic, h0, h1, h2, h3, r0, r1, r2, r3]) rfl ⟨rfl, ?_⟩
      exact (((HB2.out.setCell (by simp; omega) _).setCell (by simp; omega) _).setCell (by simp; omega) _).setCell (by simp; omega) _
end Go.Proofs.Ytfnmembjgclhoaa.CD
