/- The document's State at a circuit without operations: its result. -/
import Derived.Test.YtlobgpgdknjhlaaGreatWhZ
namespace Go.Proofs.YtlobgpgdknjhlaaGreat.WH
open Go Go.RowKit Go.Proofs.YtlobgpgdknjhlaaGreat.F
set_option linter.unusedVariables false
set_option linter.unusedSimpArgs false
attribute [local go_sem] run_store_complex run_store_func
/-- The boxes. -/
structure P0 (w : World) (n : Nat) (W : World) : Prop where
  below : Below w.heap.size w W
  circ : W.heap[w.heap.size]? = some (.cells #[.int .i64 n, .int .i64 0, .slice none 0 0] 31)
  res : W.heap[w.heap.size + 1]? = some (.cells #[.int .i64 0, .int .i64 0, .slice none 0 0] 37)
theorem P0.start (w : World) (n : Nat) : P0 w n ((w.alloc (.cells #[.int .i64 n, .int .i64 0, .slice none 0 0] 31)).alloc (.cells #[.int .i64 0, .int .i64 0, .slice none 0 0] 37)) :=
  ⟨(below1 _ _).trans ((below1 _ _).mono (by simp)), Below.heap_some (below1 _ _) (newB _ _ rfl), newB _ _ (by simp)⟩
theorem P0.next {w W W' : World} {n : Nat} (h : P0 w n W) (hb : Below W.heap.size W W') : P0 w n W' :=
  ⟨h.below.trans (hb.mono h.below.size), Below.heap_some hb h.circ, Below.heap_some hb h.res⟩
/-- The lists of ends and sums. -/
structure Ends (W : World) (g1 g2 x : Nat) : Prop where
  e : W.cell? ⟨g1, 0, none⟩ = some (.int .u64 x)
  s0 : W.cell? ⟨g2, 0, none⟩ = some (.int .i64 1)
  s1 : W.cell? ⟨g2, 1, none⟩ = some (.int .i64 0)
  s2 : W.cell? ⟨g2, 2, none⟩ = some (.int .i64 0)
  s3 : W.cell? ⟨g2, 3, none⟩ = some (.int .i64 0)
theorem Ends.next {W W' : World} {g1 g2 x : Nat} (h : Ends W g1 g2 x) (hb : Below W.heap.size W W') : Ends W' g1 g2 x :=
  ⟨(hb.cell (p := ⟨g1, 0, none⟩) (block_lt h.e)).trans h.e, (hb.cell (p := ⟨g2, 0, none⟩) (block_lt h.s0)).trans h.s0, (hb.cell (p := ⟨g2, 1, none⟩) (block_lt h.s0)).trans h.s1, (hb.cell (p := ⟨g2, 2, none⟩) (block_lt h.s0)).trans h.s2, (hb.cell (p := ⟨g2, 3, none⟩) (block_lt h.s0)).trans h.s3⟩
structure P1 (w : World) (n : Nat) (g1 g2 x b11 BO N : Nat) (l : List Rg) (W : World) : Prop where
  p0 : P0 w n W
  ends : Ends W g1 g2 x
  out : W.heap[b11]? = some (.cells #[.int .i64 n, .int .i64 0, .slice (some ⟨BO, 0, none⟩) N N] 37)
  own : OwnR W BO l
  gt : w.heap.size ≤ BO
theorem P1.next {w W W' : World} {n g1 g2 x b11 BO N : Nat} {l : List Rg} (h : P1 w n g1 g2 x b11 BO N l W) (hb : Below W.heap.size W W') : P1 w n g1 g2 x b11 BO N l W' :=
  ⟨h.p0.next hb, h.ends.next hb, Below.heap_some hb h.out, h.own.below hb, h.gt⟩
theorem P1.one {w W : World} {n g1 g2 x N : Nat} {l : List Rg} (h : P0 w n W) (he : Ends W g1 g2 x) : ∃ b11 BO,
    Value.pointer (some ⟨W.heap.size + 1, 0, none⟩) = Value.pointer (some ⟨b11, 0, none⟩) ∧ P1 w n g1 g2 x b11 BO N l ((W.alloc (.cells (flat2 l).toArray 65)).alloc (.cells #[.int .i64 n, .int .i64 0, .slice (some ⟨W.heap.size, 0, none⟩) N N] 37)).drew :=
  ⟨_, _, rfl, ((h.next (below1 _ _)).next (below1 _ _)).next (Below.refl _ _).drew, ((he.next (below1 _ _)).next (below1 _ _)).next (Below.refl _ _).drew, newB _ _ (by simp), OwnR.below (OwnR.below (newB _ _ rfl) (below1 _ _)) (Below.refl _ _).drew, h.below.size⟩
theorem P1.two {w W : World} {n g1 g2 x N : Nat} {l : List Rg} (h : P0 w n W) (he : Ends W g1 g2 x) : ∃ b11 BO,
    Value.pointer (some ⟨W.heap.size, 0, none⟩) = Value.pointer (some ⟨b11, 0, none⟩) ∧ P1 w n g1 g2 x b11 BO N l ((W.alloc (.cells #[.int .i64 n, .int .i64 0, .slice (some ⟨W.heap.size + 1, 0, none⟩) N N] 37)).alloc (.cells (flat2 l).toArray 65)).drew :=
  ⟨_, _, rfl, ((h.next (below1 _ _)).next (below1 _ _)).next (Below.refl _ _).drew, ((he.next (below1 _ _)).next (below1 _ _)).next (Below.refl _ _).drew, Below.heap_some (Below.refl _ _).drew (Below.heap_some (below1 _ _) (newB _ _ rfl)), OwnR.below (newB _ _ (by simp)) (Below.refl _ _).drew, Nat.le_succ_of_le h.below.size⟩
theorem P1.put {w W : World} {n g1 g2 x b11 BO N : Nat} {l : List Rg} (h : P1 w n g1 g2 x b11 BO N l W) (j : Nat) (hj : j < l.length) (r : Rg) : P1 w n g1 g2 x b11 BO N (l.set j r) ((W.setCell ⟨BO, j * 2, none⟩ (.complex .f64 (Fl r.a) (Fl r.b))).setCell ⟨BO, j * 2 + 1, none⟩ (.complex .f64 (Fl r.c) (Fl r.d))) := by
  have h1 := kinds_ne h.p0.circ h.own (by decide)
  have h2 := kinds_ne h.p0.res h.own (by decide)
  have h3 := kinds_ne h.out h.own (by decide)
  have hne : ∀ b o k' z, W.cell? ⟨b, o, none⟩ = some (.int k' z) → b ≠ BO := fun b o k' z hc e => by subst e; exact h.own.not_int hc
  have hk : ∀ b o k' z, W.cell? ⟨b, o, none⟩ = some (.int k' z) → ((W.setCell ⟨BO, j * 2, none⟩ (.complex .f64 (Fl r.a) (Fl r.b))).setCell ⟨BO, j * 2 + 1, none⟩ (.complex .f64 (Fl r.c) (Fl r.d))).cell? ⟨b, o, none⟩ = some (.int k' z) := fun b o k' z hc =>
    (World.cell?_of_block (w := W) ((setCell_far (hne _ _ _ _ hc)).trans (setCell_far (hne _ _ _ _ hc)))).trans hc
  exact ⟨⟨(h.p0.below.setCell (p := ⟨BO, j * 2, none⟩) h.gt _).setCell (p := ⟨BO, j * 2 + 1, none⟩) h.gt _, by rw [setCell_far h1, setCell_far h1]; exact h.p0.circ, by rw [setCell_far h2, setCell_far h2]; exact h.p0.res⟩, ⟨hk _ _ _ _ h.ends.e, hk _ _ _ _ h.ends.s0, hk _ _ _ _ h.ends.s1, hk _ _ _ _ h.ends.s2, hk _ _ _ _ h.ends.s3⟩, by rw [setCell_far h3, setCell_far h3]; exact h.out, h.own.put j hj r, h.gt⟩
set_option maxRecDepth 100000 in
set_option maxHeartbeats 4000000 in
theorem state0_calls (n x : Nat) (hn : n ≤ 10) (hx : x < 2 ^ n) (w : World) : Calls Tryz.prog 10 #[.agg #[.int .i64 n, .int .i64 0, .slice none 0 0], .int .u64 x] w fun e w' => ∃ B, e = .returned (.tuple #[.agg #[.int .i64 n, .int .i64 0, .slice (some ⟨B, 0, none⟩) (2 ^ n) (2 ^ n)], .int .i64 0]) ∧ OwnR w' B (basisR n x) ∧ w.heap.size ≤ B ∧ Below w.heap.size w w' := by
  have g28 := pfault0_calls n hn
  have g29 := pbeyond_calls n x hn hx
  have g30 := rhalves0_calls n hn
  have g31 := walk0_calls n x
  have g32 := ring1_calls
  have hmk := make_rings (2 ^ n) (pow_le hn)
  have hb37 : ∀ (a b : Int) (v : Option Addr) (l c : Nat) (w : World), (Instr.build 37 #[(0, .int .i64 a), (1, .int .i64 b), (2, .slice v l c)]).run Tryz.prog w = .ok (.agg #[.int .i64 a, .int .i64 b, .slice v l c]) w := fun a b v l c w => run_build w 37 _ _ (by kernel_rfl)
  have hsh := pow_sh hn
  have hsh2 := pow_sh2 hn
  have HS := Lib.hid (P0.start w n)
  have hn1 : decide ((10 : Int) < (n : Int)) = false := decide_eq_false (by omega)
  have hN1 : 2 ^ n ≤ 1024 := pow_le hn
  have HBR : Hid (basisR n x = (List.replicate (2 ^ n) nilR).set x oneR) := Lib.hid rfl
  generalize hN : 2 ^ n = N at *
  go_enter Tryz.func10, Tryz.ntmps10
  go_wp2_with fail
  go_at_call 28
  refine (g28 _).mono ?_
  rintro e w1 ⟨rfl, hb⟩
  replace HS := Lib.hid (HS.out.next hb)
  clear hb g28
  have p0 := cell_at (i := 0) HS.out.circ rfl
  have p1 := cell_at (i := 1) HS.out.circ rfl
  have p2 := cell_at (i := 2) HS.out.circ rfl
  go_wp2_with fail
  go_at_call 29
  refine (g29 _).mono ?_
  rintro e w2 ⟨rfl, rfl⟩
  go_wp2_with fail
  go_at_call 30
  refine (g30 _).mono ?_
  rintro e w3 ⟨rfl, hb⟩
  replace HS := Lib.hid (HS.out.next hb)
  clear hb g30 g29 p0 p1 p2
  have p0 := cell_at (i := 0) HS.out.circ rfl
  have p1 := cell_at (i := 1) HS.out.circ rfl
  have p2 := cell_at (i := 2) HS.out.circ rfl
  go_wp2_with fail
  go_at_call 31
  refine (g31 _).mono ?_
  rintro e w4 ⟨g1, c1, g2, c2, rfl, he, ⟨hs0, hs1, hs2, hs3⟩, hb⟩
  replace HS := Lib.hid (HS.out.next hb)
  have HE : Hid (Ends w4 g1 g2 x) := Lib.hid ⟨he, hs0, hs1, hs2, hs3⟩
  clear hb g31 p0 p1 p2 he hs0 hs1 hs2 hs3
  have p0 := cell_at (i := 0) HS.out.circ rfl
  have plt := block_lt p0
  go_upto_region 8 with fail
  go_cut [11] from 44 to 52 (fun v11 W => ∃ b11 BO, v11 = .pointer (some ⟨b11, 0, none⟩) ∧ P1 w n g1 g2 x b11 BO N (List.replicate N nilR) W)
  case first =>
    go_region
    all_goals (go_wp2_with fail; go_meet)
    all_goals first | exact P1.one HS.out HE.out | exact P1.two HS.out HE.out
  case rest =>
    obtain ⟨b11, BO, rfl, hst⟩ := hcut
    clear HS HE p0 plt hmk hb37 hsh hsh2
    have HS : Hid (P1 w n g1 g2 x b11 BO N (if (0 : Nat) = 0 then List.replicate N nilR else basisR n x) wc) := Lib.hid (by simpa using hst)
    clear hst
    go_wp2_with fail
    go_loopw [12] (fun k W => ∃ j : Nat, j ≤ 1 ∧ k = .int .i64 j ∧ P1 w n g1 g2 x b11 BO N (if j = 0 then List.replicate N nilR else basisR n x) W) (fun k _ => 1 - (intOf k).toNat)
    case atStart => exact ⟨0, by decide, rfl, HS.out⟩
    case round =>
      obtain ⟨j, hj, rfl, hst⟩ := hrel
      clear HS
      have hj2 : j = 0 ∨ j = 1 := by omega
      rcases hj2 with rfl | rfl
      · rw [if_pos rfl] at hst
        have HS := Lib.hid hst
        clear hst
        have o2 := cell_at (i := 2) HS.out.out rfl
        have e0 := HS.out.ends.e
        have s0 := HS.out.ends.s0
        have s1 := HS.out.ends.s1
        have s2 := HS.out.ends.s2
        have s3 := HS.out.ends.s3
        have hidx := fun W => idx35 .u64 BO N N x hx W
        have hi1 : ∀ W, (Instr.indexAt 74 (.slice (some ⟨g1, 0, none⟩) 1 c1) (.int .i64 0)).run Tryz.prog W = .ok (.pointer (some ⟨g1, 0, none⟩)) W := fun W => by
          have hs : ∀ W, (Go.sizeOf (Tryz.prog.elem 74)).run Tryz.prog W = .ok 1 W := fun _ => by kernel_rfl
          rw [run_indexAt_slice _ 74 _ _ _ _ _ (by kernel_rfl), if_pos ⟨by decide, by decide⟩, hs]
          rfl
        have hi2 : ∀ W, (Instr.indexAt 75 (.slice (some ⟨g2, 0, none⟩) 1 c2) (.int .i64 0)).run Tryz.prog W = .ok (.pointer (some ⟨g2, 0, none⟩)) W := fun W => by
          have hs : ∀ W, (Go.sizeOf (Tryz.prog.elem 75)).run Tryz.prog W = .ok 4 W := fun _ => by kernel_rfl
          rw [run_indexAt_slice _ 75 _ _ _ _ _ (by kernel_rfl), if_pos ⟨by decide, by decide⟩, hs]
          rfl
        have HPUT : Hid (∀ W, P1 w n g1 g2 x b11 BO N (List.replicate N nilR) W → P1 w n g1 g2 x b11 BO N (basisR n x) ((W.setCell ⟨BO, x * 2, none⟩ (.complex .f64 4607182418800017408 0)).setCell ⟨BO, x * 2 + 1, none⟩ (.complex .f64 0 0))) := Lib.hid fun W h => by
          have h1 := h.put x (by simpa using hx) oneR
          rw [← HBR.out] at h1
          simp only [oneR, fl_one, fl_zero] at h1
          exact h1
        have HCL : Hid (∀ W, P1 w n g1 g2 x b11 BO N (List.replicate N nilR) W → ∃ v0 v1, W.cell? ⟨BO, x * 2, none⟩ = some v0 ∧ W.cell? ⟨BO, x * 2 + 1, none⟩ = some v1) := Lib.hid fun W h => ⟨_, _, h.own.cells x (by simpa using hx)⟩
        go_upto_region 12 with fail
        go_region_with (first | (go_at_call 32; refine (g32 _).mono ?_; rintro e' w' ⟨rfl, hb⟩; have HY := Lib.hid (HS.out.next ((Below.refl _ wr).drew.trans hb)); have y2 := cell_at (i := 2) HY.out.out rfl; have ye := HY.out.ends.e; have yf : ∀ i, w'.frozen? ⟨BO, i, none⟩ = false := fun i => free_at HY.out.own; obtain ⟨v0, v1, z0, z1⟩ := HCL.out _ HY.out))
        all_goals (
          have HS5 := Lib.hid (HPUT.out _ HY.out)
          go_wp2_with fail
          go_roundw
          case rel => exact ⟨1, by decide, rfl, by simpa using HS5.out⟩
          case measure => simp [intOf])
      · rw [if_neg (by decide)] at hst
        have HS := Lib.hid hst
        clear hst
        have o0 := cell_at (i := 0) HS.out.out rfl
        have o1 := cell_at (i := 1) HS.out.out rfl
        have o2 := cell_at (i := 2) HS.out.out rfl
        have r0 := cell_at (i := 0) HS.out.p0.res rfl
        have r1 := cell_at (i := 1) HS.out.p0.res rfl
        have r2 := cell_at (i := 2) HS.out.p0.res rfl
        have rf : ∀ i, wr.frozen? ⟨w.heap.size + 1, i, none⟩ = false := fun i => free_at HS.out.p0.res
        go_wp2_with fail
        go_loopw [13, 14, 15] (fun _ _ _ W => W = wr) (fun _ _ _ _ => 0)
        case atStart => rfl
        case round =>
          subst hrel
          go_wp2_with fail
          refine bodyPost_ret (v := .tuple #[.agg #[.int .i64 n, .int .i64 0, .slice (some ⟨BO, 0, none⟩) N N], .int .i64 0]) (by simp [results, Tryz.results10, go_sem, *]) rfl ⟨BO, rfl, ?_, HS.out.gt, ?_⟩
          · have hne := kinds_ne HS.out.p0.res HS.out.own (by decide)
            exact ((HS.out.own.far (Ne.symm hne)).far (Ne.symm hne)).far (Ne.symm hne)
          · exact put3 HS.out.p0.below (Nat.le_succ _) _ _ _
end Go.Proofs.YtlobgpgdknjhlaaGreat.WH
