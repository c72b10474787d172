/- CodeKeeps: walked. -/
import Derived.Test.YtfnmembjgclhoaaCodBH
import Derived.Test.YtfnmembjgclhoaaCodBE
import Derived.Test.YtfnmembjgclhoaaCodAS
import Derived.Deep.RegionLaw
import Derived.Lib.QuietBelow
import Derived.BigQuiet
import Derived.Deep.CutRange
namespace Go.Proofs.Ytfnmembjgclhoaa.CD
open Go Go.RowKit
set_option linter.unusedVariables false
set_option linter.unusedSimpArgs false

def markP : Pau := ⟨91, 5, 0, 0⟩
/-- Two boxes, the mark's behind them. -/
structure KSt (w : World) (c : Cod) (p : Pau) (M : Nat) (W : World) : Prop where
  two : Box2 w c p W
  m : Cells4 W M 0 markP
  lt : M < W.heap.size
  lo : w.heap.size ≤ M
theorem KSt.step {w W W' : World} {c : Cod} {p : Pau} {M : Nat} (h : KSt w c p M W) (hb : Below W.heap.size W W') : KSt w c p M W' :=
  ⟨h.two.step hb, h.m.below h.lt hb, Nat.lt_of_lt_of_le h.lt hb.size, h.lo⟩

theorem one0 (W : World) (o1 : Obj) : (W.alloc o1).drew.heap[W.heap.size]? = some o1 := newAt _ _ rfl
theorem two0 (W : World) (o1 o2 : Obj) : ((W.alloc o1).alloc o2).drew.heap[W.heap.size]? = some o1 := by
  show ((W.alloc o1).alloc o2).heap[W.heap.size]? = some o1
  rw [Below.heap_alloc _ _ _ (by simp)]
  exact newAt _ _ rfl
theorem two1 (W : World) (o1 o2 : Obj) : ((W.alloc o1).alloc o2).drew.heap[W.heap.size + 1]? = some o2 := newAt _ _ (by simp)
theorem mark_src {W : World} {B : Nat} (h : W.heap[B]? = some (.cells #[.int .i64 91, .int .u64 5, .int .u64 0, .int .i64 0] 27)) : Src W (some ⟨B, 0, none⟩) 1 1 (flat [markP]) :=
  .inr ⟨⟨B, 0, none⟩, rfl, rfl, Row.news (ps := [markP]) (off := 0) (fun j hj => by
    obtain rfl : j = 0 := by simpa using hj
    exact Cells4.of (p := markP) h), flat_one [markP]⟩
/-- A copy's row: its strings, the mark behind them. -/
structure KRow (W : World) (g k : Nat) (ps : List Pau) : Prop where
  row : Row W (some ⟨g, 0, none⟩) k ps
  mk' : Cells4 W g (ps.length * 4) markP
  cap : ps.length + 1 ≤ k
theorem KRow.step {W W' : World} {g k : Nat} {ps : List Pau} (h : KRow W g k ps) (hb : Below W.heap.size W W') : KRow W' g k ps := ⟨h.row.below hb, h.mk'.below (block_lt h.mk'.1) hb, h.cap⟩
/-- All that the walk keeps once the copies lie in a box. -/
structure KF (w : World) (c : Cod) (p : Pau) (M B9 : Nat) (d : Cod) (g x z : Nat) (W : World) : Prop where
  k : KSt w c p M W
  b : BoxAt W B9 d
  rg : KRow W g d.gc d.gs
  rx : KRow W x d.xc d.xs
  rz : KRow W z d.zc d.zs
theorem KF.step {w W W' : World} {c d : Cod} {p : Pau} {M B9 g x z : Nat} (h : KF w c p M B9 d g x z W) (hb : Below W.heap.size W W') : KF w c p M B9 d g x z W' :=
  ⟨h.k.step hb, h.b.step hb, h.rg.step hb, h.rx.step hb, h.rz.step hb⟩
theorem KF.codeD {w W : World} {c : Cod} {n : Int} {p : Pau} {M B9 g x z kg kx kz : Nat} {gs xs zs : List Pau} (h : KF w c p M B9 ⟨n, some ⟨g, 0, none⟩, kg, gs, some ⟨x, 0, none⟩, kx, xs, some ⟨z, 0, none⟩, kz, zs⟩ g x z W) (hn : I64 n) : CodAt W ⟨n, some ⟨g, 0, none⟩, kg, gs, some ⟨x, 0, none⟩, kx, xs, some ⟨z, 0, none⟩, kz, zs⟩ :=
  ⟨hn, h.rg.row, h.rx.row, h.rz.row⟩
theorem KF.cells {w W : World} {n : Int} {ga xa za : Option Addr} {gc xc zc : Nat} {p : Pau} {M B9 g x z kg kx kz : Nat} {gs xs zs : List Pau} (h : KF w ⟨n, ga, gc, gs, xa, xc, xs, za, zc, zs⟩ p M B9 ⟨n, some ⟨g, 0, none⟩, kg, gs, some ⟨x, 0, none⟩, kx, xs, some ⟨z, 0, none⟩, kz, zs⟩ g x z W) :
    W.cell? ⟨w.heap.size, 0, none⟩ = some (.int .i64 n) ∧ W.cell? ⟨w.heap.size, 1, none⟩ = some (.slice ga gs.length gc) ∧ W.cell? ⟨w.heap.size, 2, none⟩ = some (.slice xa xs.length xc) ∧ W.cell? ⟨w.heap.size, 3, none⟩ = some (.slice za zs.length zc) ∧ W.cell? ⟨B9, 0, none⟩ = some (.int .i64 n) ∧ W.cell? ⟨B9, 1, none⟩ = some (.slice (some ⟨g, 0, none⟩) gs.length kg) ∧ W.cell? ⟨B9, 2, none⟩ = some (.slice (some ⟨x, 0, none⟩) xs.length kx) ∧ W.cell? ⟨B9, 3, none⟩ = some (.slice (some ⟨z, 0, none⟩) zs.length kz) ∧ W.cell? ⟨w.heap.size + 1, 0, none⟩ = some (.int .i64 p.n) ∧ W.cell? ⟨w.heap.size + 1, 1, none⟩ = some (.int .u64 p.x) ∧ W.cell? ⟨w.heap.size + 1, 2, none⟩ = some (.int .u64 p.z) ∧ W.cell? ⟨w.heap.size + 1, 3, none⟩ = some (.int .i64 p.ph) ∧ W.cell? ⟨M, 0, none⟩ = some (.int .i64 91) ∧ W.cell? ⟨M, 1, none⟩ = some (.int .u64 5) ∧ W.cell? ⟨M, 2, none⟩ = some (.int .u64 0) ∧ W.cell? ⟨M, 3, none⟩ = some (.int .i64 0) ∧ W.cell? ⟨g, gs.length * 4, none⟩ = some (.int .i64 91) ∧ W.cell? ⟨g, gs.length * 4 + 1, none⟩ = some (.int .u64 5) ∧ W.cell? ⟨g, gs.length * 4 + 2, none⟩ = some (.int .u64 0) ∧ W.cell? ⟨g, gs.length * 4 + 3, none⟩ = some (.int .i64 0) ∧ W.cell? ⟨x, xs.length * 4, none⟩ = some (.int .i64 91) ∧ W.cell? ⟨x, xs.length * 4 + 1, none⟩ = some (.int .u64 5) ∧ W.cell? ⟨x, xs.length * 4 + 2, none⟩ = some (.int .u64 0) ∧ W.cell? ⟨x, xs.length * 4 + 3, none⟩ = some (.int .i64 0) ∧ W.cell? ⟨z, zs.length * 4, none⟩ = some (.int .i64 91) ∧ W.cell? ⟨z, zs.length * 4 + 1, none⟩ = some (.int .u64 5) ∧ W.cell? ⟨z, zs.length * 4 + 2, none⟩ = some (.int .u64 0) ∧ W.cell? ⟨z, zs.length * 4 + 3, none⟩ = some (.int .i64 0) := by
  obtain ⟨⟨⟨⟨-, -, k0, k1, k2, k3⟩, ⟨p0, p1, p2, p3⟩, -⟩, ⟨m0, m1, m2, m3⟩, -, -⟩, ⟨-, d0, d1, d2, d3⟩, ⟨-, ⟨g0, g1, g2, g3⟩, -⟩, ⟨-, ⟨x0, x1, x2, x3⟩, -⟩, ⟨-, ⟨z0, z1, z2, z3⟩, -⟩⟩ := h
  exact ⟨k0, k1, k2, k3, d0, d1, d2, d3, p0, p1, p2, p3, m0, m1, m2, m3, g0, g1, g2, g3, x0, x1, x2, x3, z0, z1, z2, z3⟩

/-- What one of the three copies leaves. -/
def Copied (W : World) (ps : List Pau) (v : Value) (W' : World) : Prop := W'.ownsRow W.heap.size 27 4 v (ps.length + 1) (flat (ps ++ [markP])) ∧ Below W.heap.size W W'
theorem Copied.of {W w' w'' : World} {ps : List Pau} {v v' : Value} (h0 : Below W.heap.size W w') (h1 : w'.ownsRow W.heap.size 27 4 v ps.length (flat ps)) (h2 : w''.ownsRow W.heap.size 27 4 v' (ps.length + 1) (flat ps ++ flat [markP])) (hg : w'.grownBy w'' v.ownBlock) : Copied W ps v' w'' := by
  refine ⟨?_, h0.trans (grown_below' hg (fun k hk => (h1.lt k hk).1) h0.size)⟩
  have e : flat (ps ++ [markP]) = flat ps ++ flat [markP] := by simp [flat]
  rw [e]; exact h2

set_option maxRecDepth 100000 in
set_option maxHeartbeats 16000000 in
theorem keeps_walk (c : Cod) (p : Pau) (w : World) (hc : CodAt w c) (hp : WF p) (ng : c.ga = none → c.gc = 0) (nx : c.xa = none → c.xc = 0) (nz : c.za = none → c.zc = 0) (lg : c.gs.length ≤ 4398046510976) (lx : c.xs.length ≤ 4398046510976) (lz : c.zs.length ≤ 4398046510976) : Calls Try.prog 6 #[(Value.agg #[.int .i64 c.n, .slice c.ga c.gs.length c.gc, .slice c.xa c.xs.length c.xc, .slice c.za c.zs.length c.zc]), (Value.agg #[.int .i64 p.n, .int .u64 p.x, .int .u64 p.z, .int .i64 p.ph])] w fun e w' => e = .returned (.bool true) ∧ Below w.heap.size w w' := by
  have HBX := Lib.hid (Box2.start w c p)
  have HC := Lib.hid hc
  have HSG := Lib.hid (hc.g.src ng)
  have HSX := Lib.hid (hc.x.src nx)
  have HSZ := Lib.hid (hc.z.src nz)
  have hbd : ∀ (a : Int) (b : Nat) (w : World), (Instr.build 27 #[(0, .int .i64 a), (1, .int .u64 b)]).run Try.prog w = .ok (.agg #[.int .i64 a, .int .u64 b, .int .u64 0, .int .i64 0]) w := fun a b w => run_build w 27 _ _ (by kernel_rfl)
  have hbm : ∀ (w : World), (Instr.build 27 #[(0, .int .i64 91), (1, .int .u64 5)]).run Try.prog w = .ok (.agg #[.int .i64 91, .int .u64 5, .int .u64 0, .int .i64 0]) w := fun w => run_build w 27 _ _ (by kernel_rfl)
  obtain ⟨i0, hi, hz0, hz1, hz2⟩ := info_parts info27
  have mixed := mixed
  clear hc ng nx nz
  obtain ⟨n, ga, gc, gs, xa, xc, xs, za, zc, zs⟩ := c
  simp only at HBX HSG HSX HSZ lg lx lz
  go_enter Try.func6, Try.ntmps6
  go_wp2_with fail
  go_at_call 9
  refine (alive_calls _).mono ?_
  rintro e w1 ⟨rfl, hb⟩
  replace HBX := Lib.hid (HBX.out.step hb)
  clear hb
  have HK : Hid (KSt w ⟨n, ga, gc, gs, xa, xc, xs, za, zc, zs⟩ p w1.heap.size (w1.alloc (.cells #[.int .i64 91, .int .u64 5, .int .u64 0, .int .i64 0] 27))) := Lib.hid ⟨HBX.out.step (below1 _ _), Cells4.of (p := markP) (newAt _ _ rfl), by simp, HBX.out.box.below.size⟩
  clear HBX
  go_wp2_with fail
  generalize w1.alloc (.cells #[.int .i64 91, .int .u64 5, .int .u64 0, .int .i64 0] 27) = w2 at HK ⊢
  generalize w1.heap.size = M at HK ⊢
  obtain ⟨⟨⟨hbw, hlt, k0, k1, k2, k3⟩, -, -⟩, ⟨m0, m1, m2, m3⟩, hM, hlo⟩ := HK.out
  simp only at k0 k1 k2 k3
  simp only [markP] at m0 m1 m2 m3
  have hws : w.heap.size ≤ w2.heap.size := hbw.size
  have hws : w.heap.size ≤ w2.heap.size := hbw.size
  have hws : w.heap.size ≤ w2.heap.size := hbw.size
  have hws : w.heap.size ≤ w2.heap.size := hbw.size
  have hws : w.heap.size ≤ w2.heap.size := hbw.size
  have hws : w.heap.size ≤ w2.heap.size := hbw.size
  have hws : w.heap.size ≤ w2.heap.size := hbw.size
  have hws : w.heap.size ≤ w2.heap.size := hbw.size
  have hws : w.heap.size ≤ w2.heap.size := hbw.size
  have hws : w.heap.size ≤ w2.heap.size := hbw.size
  have hA1 : ∀ (o1 : Obj) o, (w2.alloc o1).cell? ⟨w.heap.size, o, none⟩ = w2.cell? ⟨w.heap.size, o, none⟩ := fun o1 o => (below1 w2 o1).cell (p := ⟨w.heap.size, o, none⟩) hlt
  have hA2 : ∀ (o1 o2 : Obj) o, ((w2.alloc o1).alloc o2).cell? ⟨w.heap.size, o, none⟩ = w2.cell? ⟨w.heap.size, o, none⟩ := fun o1 o2 o => (below2 w2 o1 o2).cell (p := ⟨w.heap.size, o, none⟩) hlt
  have hB1 : ∀ (o1 : Obj) o, (w2.alloc o1).cell? ⟨M, o, none⟩ = w2.cell? ⟨M, o, none⟩ := fun o1 o => (below1 w2 o1).cell (p := ⟨M, o, none⟩) hM
  have hB2 : ∀ (o1 o2 : Obj) o, ((w2.alloc o1).alloc o2).cell? ⟨M, o, none⟩ = w2.cell? ⟨M, o, none⟩ := fun o1 o2 o => (below2 w2 o1 o2).cell (p := ⟨M, o, none⟩) hM
  have hS : ∀ W, Below w2.heap.size w2 W → Src W ga gs.length gc (flat gs) := fun W h => HSG.out.below (hbw.trans (h.mono hbw.size))
  go_cut [6] from 18 to 24 (fun s W => Copied w2 gs s W)
  case first =>
    clear hp
    go_region_law (first
      | (refine step_append_src rfl _ _ rfl w2.heap.size i0 hi hz0 hz1 hz2 (.slice (some ⟨w2.heap.size, 0, none⟩) 0 0) 0 [] rfl ?_ ga gs.length gc (flat gs) rfl ?_ ?_ ?_ ?_; (exact ownsRow_empty (one0 _ _) (Nat.le_refl _)); (exact hS _ (below1 _ _).drew); (omega); (simp); intro v' w' hown hg; simp only [Nat.zero_add, List.nil_append] at hown; have hb' : Below w2.heap.size w2 w' := (below1 w2 (.cells #[] 27)).drew.trans (grown_below' hg (fun k hk => (by have h9 : w2.heap.size = k := Option.some.inj hk; omega)) (by simp)); have n0 := (hb'.cell (p := ⟨M, 0, none⟩) hM).trans m0; have n1 := (hb'.cell (p := ⟨M, 0 + 1, none⟩) hM).trans m1; have n2 := (hb'.cell (p := ⟨M, 0 + 2, none⟩) hM).trans m2; have n3 := (hb'.cell (p := ⟨M, 0 + 3, none⟩) hM).trans m3; clear hg)
      | (refine step_append_src rfl _ _ rfl w2.heap.size i0 hi hz0 hz1 hz2 (.slice (some ⟨w2.heap.size, 0, none⟩) 0 0) 0 [] rfl ?_ ga gs.length gc (flat gs) rfl ?_ ?_ ?_ ?_; (exact ownsRow_empty (two0 _ _ _) (Nat.le_refl _)); (exact hS _ (below2 _ _ _).drew); (omega); (first | (simp; done) | (simp; omega)); intro v' w' hown hg; simp only [Nat.zero_add, List.nil_append] at hown; have hb' : Below w2.heap.size w2 w' := (below2 w2 (.cells #[] 27) (.cells #[.int .i64 91, .int .u64 5, .int .u64 0, .int .i64 0] 27)).drew.trans (grown_below' hg (fun k hk => (by have h9 : w2.heap.size = k := Option.some.inj hk; omega)) (by simp; omega)); have hMM : w'.heap[w2.heap.size + 1]? = some (.cells #[.int .i64 91, .int .u64 5, .int .u64 0, .int .i64 0] 27) := (hg.block _ (by simp) (fun e => by have h9 : w2.heap.size + 1 = w2.heap.size := Option.some.inj e; omega)).trans (two1 _ _ _); clear hg)
      | (refine step_append_src rfl _ _ rfl w2.heap.size i0 hi hz0 hz1 hz2 (.slice (some ⟨w2.heap.size + 1, 0, none⟩) 0 0) 0 [] rfl ?_ ga gs.length gc (flat gs) rfl ?_ ?_ ?_ ?_; (exact ownsRow_empty (two1 _ _ _) (by omega)); (exact hS _ (below2 _ _ _).drew); (omega); (first | (simp; done) | (simp; omega)); intro v' w' hown hg; simp only [Nat.zero_add, List.nil_append] at hown; have hb' : Below w2.heap.size w2 w' := (below2 w2 (.cells #[.int .i64 91, .int .u64 5, .int .u64 0, .int .i64 0] 27) (.cells #[] 27)).drew.trans (grown_below' hg (fun k hk => (by have h9 : w2.heap.size + 1 = k := Option.some.inj hk; omega)) (by simp; omega)); have hMM : w'.heap[w2.heap.size]? = some (.cells #[.int .i64 91, .int .u64 5, .int .u64 0, .int .i64 0] 27) := (hg.block _ (by simp; omega) (fun e => by have h9 : w2.heap.size = w2.heap.size + 1 := Option.some.inj e; omega)).trans (two0 _ _ _); clear hg)
      | (refine step_append_src rfl _ _ rfl w2.heap.size i0 hi hz0 hz1 hz2 v' gs.length (flat gs) rfl ?_ (some ⟨w'.heap.size, 0, none⟩) 1 1 (flat [markP]) rfl ?_ ?_ ?_ ?_; (exact hown.alloc _); (exact mark_src (newAt _ _ rfl)); (omega); (have h9 := hb'.size; first | (simp; done) | (simp; omega)); intro v'' w'' hown2 hg2; have HCP : Hid (Copied w2 gs v'' w'') := Lib.hid (Copied.of (hb'.alloc hb'.size (.cells #[.int .i64 91, .int .u64 5, .int .u64 0, .int .i64 0] 27)) (hown.alloc (.cells #[.int .i64 91, .int .u64 5, .int .u64 0, .int .i64 0] 27)) hown2 hg2); clear hown2 hg2)
      | (refine step_append_src rfl _ _ rfl w2.heap.size i0 hi hz0 hz1 hz2 v' gs.length (flat gs) rfl ?_ (some ⟨w2.heap.size + 1, 0, none⟩) 1 1 (flat [markP]) rfl ?_ ?_ ?_ ?_; (exact hown); (exact mark_src hMM); (omega); (exact hb'.size); intro v'' w'' hown2 hg2; have HCP : Hid (Copied w2 gs v'' w'') := Lib.hid (Copied.of hb' hown hown2 hg2); clear hown2 hg2)
      | (refine step_append_src rfl _ _ rfl w2.heap.size i0 hi hz0 hz1 hz2 v' gs.length (flat gs) rfl ?_ (some ⟨w2.heap.size, 0, none⟩) 1 1 (flat [markP]) rfl ?_ ?_ ?_ ?_; (exact hown); (exact mark_src hMM); (omega); (exact hb'.size); intro v'' w'' hown2 hg2; have HCP : Hid (Copied w2 gs v'' w'') := Lib.hid (Copied.of hb' hown hown2 hg2); clear hown2 hg2))
    all_goals (go_wp2_with fail; go_meet)
    all_goals exact HCP.out
  case rest =>
    obtain ⟨w3, rfl⟩ : ∃ w3 : World, w3 = wc := ⟨_, rfl⟩
    obtain ⟨hcp, hbc⟩ := hcut
    have HKN := Lib.hid (HK.out.step hbc)
    clear HK
    have HK := HKN
    clear HKN hA1 hA2 hB1 hB2 hS hws hbw hlt k0 k1 k2 k3 m0 m1 m2 m3 hM hlo
    obtain ⟨⟨⟨hbw, hlt, k0, k1, k2, k3⟩, -, -⟩, ⟨m0, m1, m2, m3⟩, hM, hlo⟩ := HK.out
    simp only at k0 k1 k2 k3
    simp only [markP] at m0 m1 m2 m3
    obtain ⟨g, kg, rfl, hkg, h1, h2⟩ := own_slice hcp HC.out.g.wf (by omega)
    have HRG := Lib.hid (KRow.mk h1 h2 hkg)
    clear h1 h2 hcp
    clear hbc
    go_wp2_with fail
    have hws : w.heap.size ≤ w3.heap.size := hbw.size
    have hA1 : ∀ (o1 : Obj) o, (w3.alloc o1).cell? ⟨w.heap.size, o, none⟩ = w3.cell? ⟨w.heap.size, o, none⟩ := fun o1 o => (below1 w3 o1).cell (p := ⟨w.heap.size, o, none⟩) hlt
    have hA2 : ∀ (o1 o2 : Obj) o, ((w3.alloc o1).alloc o2).cell? ⟨w.heap.size, o, none⟩ = w3.cell? ⟨w.heap.size, o, none⟩ := fun o1 o2 o => (below2 w3 o1 o2).cell (p := ⟨w.heap.size, o, none⟩) hlt
    have hB1 : ∀ (o1 : Obj) o, (w3.alloc o1).cell? ⟨M, o, none⟩ = w3.cell? ⟨M, o, none⟩ := fun o1 o => (below1 w3 o1).cell (p := ⟨M, o, none⟩) hM
    have hB2 : ∀ (o1 o2 : Obj) o, ((w3.alloc o1).alloc o2).cell? ⟨M, o, none⟩ = w3.cell? ⟨M, o, none⟩ := fun o1 o2 o => (below2 w3 o1 o2).cell (p := ⟨M, o, none⟩) hM
    have hS : ∀ W, Below w3.heap.size w3 W → Src W xa xs.length xc (flat xs) := fun W h => HSX.out.below (hbw.trans (h.mono hbw.size))
    go_cut [7] from 25 to 31 (fun s W => Copied w3 xs s W)
    case first =>
      clear hp
      go_region_law (first
        | (refine step_append_src rfl _ _ rfl w3.heap.size i0 hi hz0 hz1 hz2 (.slice (some ⟨w3.heap.size, 0, none⟩) 0 0) 0 [] rfl ?_ xa xs.length xc (flat xs) rfl ?_ ?_ ?_ ?_; (exact ownsRow_empty (one0 _ _) (Nat.le_refl _)); (exact hS _ (below1 _ _).drew); (omega); (simp); intro v' w' hown hg; simp only [Nat.zero_add, List.nil_append] at hown; have hb' : Below w3.heap.size w3 w' := (below1 w3 (.cells #[] 27)).drew.trans (grown_below' hg (fun k hk => (by have h9 : w3.heap.size = k := Option.some.inj hk; omega)) (by simp)); have n0 := (hb'.cell (p := ⟨M, 0, none⟩) hM).trans m0; have n1 := (hb'.cell (p := ⟨M, 0 + 1, none⟩) hM).trans m1; have n2 := (hb'.cell (p := ⟨M, 0 + 2, none⟩) hM).trans m2; have n3 := (hb'.cell (p := ⟨M, 0 + 3, none⟩) hM).trans m3; clear hg)
        | (refine step_append_src rfl _ _ rfl w3.heap.size i0 hi hz0 hz1 hz2 (.slice (some ⟨w3.heap.size, 0, none⟩) 0 0) 0 [] rfl ?_ xa xs.length xc (flat xs) rfl ?_ ?_ ?_ ?_; (exact ownsRow_empty (two0 _ _ _) (Nat.le_refl _)); (exact hS _ (below2 _ _ _).drew); (omega); (first | (simp; done) | (simp; omega)); intro v' w' hown hg; simp only [Nat.zero_add, List.nil_append] at hown; have hb' : Below w3.heap.size w3 w' := (below2 w3 (.cells #[] 27) (.cells #[.int .i64 91, .int .u64 5, .int .u64 0, .int .i64 0] 27)).drew.trans (grown_below' hg (fun k hk => (by have h9 : w3.heap.size = k := Option.some.inj hk; omega)) (by simp; omega)); have hMM : w'.heap[w3.heap.size + 1]? = some (.cells #[.int .i64 91, .int .u64 5, .int .u64 0, .int .i64 0] 27) := (hg.block _ (by simp) (fun e => by have h9 : w3.heap.size + 1 = w3.heap.size := Option.some.inj e; omega)).trans (two1 _ _ _); clear hg)
        | (refine step_append_src rfl _ _ rfl w3.heap.size i0 hi hz0 hz1 hz2 (.slice (some ⟨w3.heap.size + 1, 0, none⟩) 0 0) 0 [] rfl ?_ xa xs.length xc (flat xs) rfl ?_ ?_ ?_ ?_; (exact ownsRow_empty (two1 _ _ _) (by omega)); (exact hS _ (below2 _ _ _).drew); (omega); (first | (simp; done) | (simp; omega)); intro v' w' hown hg; simp only [Nat.zero_add, List.nil_append] at hown; have hb' : Below w3.heap.size w3 w' := (below2 w3 (.cells #[.int .i64 91, .int .u64 5, .int .u64 0, .int .i64 0] 27) (.cells #[] 27)).drew.trans (grown_below' hg (fun k hk => (by have h9 : w3.heap.size + 1 = k := Option.some.inj hk; omega)) (by simp; omega)); have hMM : w'.heap[w3.heap.size]? = some (.cells #[.int .i64 91, .int .u64 5, .int .u64 0, .int .i64 0] 27) := (hg.block _ (by simp; omega) (fun e => by have h9 : w3.heap.size = w3.heap.size + 1 := Option.some.inj e; omega)).trans (two0 _ _ _); clear hg)
        | (refine step_append_src rfl _ _ rfl w3.heap.size i0 hi hz0 hz1 hz2 v' xs.length (flat xs) rfl ?_ (some ⟨w'.heap.size, 0, none⟩) 1 1 (flat [markP]) rfl ?_ ?_ ?_ ?_; (exact hown.alloc _); (exact mark_src (newAt _ _ rfl)); (omega); (have h9 := hb'.size; first | (simp; done) | (simp; omega)); intro v'' w'' hown2 hg2; have HCP : Hid (Copied w3 xs v'' w'') := Lib.hid (Copied.of (hb'.alloc hb'.size (.cells #[.int .i64 91, .int .u64 5, .int .u64 0, .int .i64 0] 27)) (hown.alloc (.cells #[.int .i64 91, .int .u64 5, .int .u64 0, .int .i64 0] 27)) hown2 hg2); clear hown2 hg2)
        | (refine step_append_src rfl _ _ rfl w3.heap.size i0 hi hz0 hz1 hz2 v' xs.length (flat xs) rfl ?_ (some ⟨w3.heap.size + 1, 0, none⟩) 1 1 (flat [markP]) rfl ?_ ?_ ?_ ?_; (exact hown); (exact mark_src hMM); (omega); (exact hb'.size); intro v'' w'' hown2 hg2; have HCP : Hid (Copied w3 xs v'' w'') := Lib.hid (Copied.of hb' hown hown2 hg2); clear hown2 hg2)
        | (refine step_append_src rfl _ _ rfl w3.heap.size i0 hi hz0 hz1 hz2 v' xs.length (flat xs) rfl ?_ (some ⟨w3.heap.size, 0, none⟩) 1 1 (flat [markP]) rfl ?_ ?_ ?_ ?_; (exact hown); (exact mark_src hMM); (omega); (exact hb'.size); intro v'' w'' hown2 hg2; have HCP : Hid (Copied w3 xs v'' w'') := Lib.hid (Copied.of hb' hown hown2 hg2); clear hown2 hg2))
      all_goals (go_wp2_with fail; go_meet)
      all_goals exact HCP.out
    case rest =>
      obtain ⟨w4, rfl⟩ : ∃ w4 : World, w4 = wc := ⟨_, rfl⟩
      obtain ⟨hcp, hbc⟩ := hcut
      have HKN := Lib.hid (HK.out.step hbc)
      clear HK
      have HK := HKN
      clear HKN hA1 hA2 hB1 hB2 hS hws hbw hlt k0 k1 k2 k3 m0 m1 m2 m3 hM hlo
      obtain ⟨⟨⟨hbw, hlt, k0, k1, k2, k3⟩, -, -⟩, ⟨m0, m1, m2, m3⟩, hM, hlo⟩ := HK.out
      simp only at k0 k1 k2 k3
      simp only [markP] at m0 m1 m2 m3
      obtain ⟨x, kx, rfl, hkx, h1, h2⟩ := own_slice hcp HC.out.x.wf (by omega)
      have HRX := Lib.hid (KRow.mk h1 h2 hkx)
      clear h1 h2 hcp
      replace HRG := Lib.hid (HRG.out.step hbc)
      clear hbc
      go_wp2_with fail
      have hws : w.heap.size ≤ w4.heap.size := hbw.size
      have hA1 : ∀ (o1 : Obj) o, (w4.alloc o1).cell? ⟨w.heap.size, o, none⟩ = w4.cell? ⟨w.heap.size, o, none⟩ := fun o1 o => (below1 w4 o1).cell (p := ⟨w.heap.size, o, none⟩) hlt
      have hA2 : ∀ (o1 o2 : Obj) o, ((w4.alloc o1).alloc o2).cell? ⟨w.heap.size, o, none⟩ = w4.cell? ⟨w.heap.size, o, none⟩ := fun o1 o2 o => (below2 w4 o1 o2).cell (p := ⟨w.heap.size, o, none⟩) hlt
      have hB1 : ∀ (o1 : Obj) o, (w4.alloc o1).cell? ⟨M, o, none⟩ = w4.cell? ⟨M, o, none⟩ := fun o1 o => (below1 w4 o1).cell (p := ⟨M, o, none⟩) hM
      have hB2 : ∀ (o1 o2 : Obj) o, ((w4.alloc o1).alloc o2).cell? ⟨M, o, none⟩ = w4.cell? ⟨M, o, none⟩ := fun o1 o2 o => (below2 w4 o1 o2).cell (p := ⟨M, o, none⟩) hM
      have hS : ∀ W, Below w4.heap.size w4 W → Src W za zs.length zc (flat zs) := fun W h => HSZ.out.below (hbw.trans (h.mono hbw.size))
      go_cut [8] from 32 to 38 (fun s W => Copied w4 zs s W)
      case first =>
        clear hp
        go_region_law (first
          | (refine step_append_src rfl _ _ rfl w4.heap.size i0 hi hz0 hz1 hz2 (.slice (some ⟨w4.heap.size, 0, none⟩) 0 0) 0 [] rfl ?_ za zs.length zc (flat zs) rfl ?_ ?_ ?_ ?_; (exact ownsRow_empty (one0 _ _) (Nat.le_refl _)); (exact hS _ (below1 _ _).drew); (omega); (simp); intro v' w' hown hg; simp only [Nat.zero_add, List.nil_append] at hown; have hb' : Below w4.heap.size w4 w' := (below1 w4 (.cells #[] 27)).drew.trans (grown_below' hg (fun k hk => (by have h9 : w4.heap.size = k := Option.some.inj hk; omega)) (by simp)); have n0 := (hb'.cell (p := ⟨M, 0, none⟩) hM).trans m0; have n1 := (hb'.cell (p := ⟨M, 0 + 1, none⟩) hM).trans m1; have n2 := (hb'.cell (p := ⟨M, 0 + 2, none⟩) hM).trans m2; have n3 := (hb'.cell (p := ⟨M, 0 + 3, none⟩) hM).trans m3; clear hg)
          | (refine step_append_src rfl _ _ rfl w4.heap.size i0 hi hz0 hz1 hz2 (.slice (some ⟨w4.heap.size, 0, none⟩) 0 0) 0 [] rfl ?_ za zs.length zc (flat zs) rfl ?_ ?_ ?_ ?_; (exact ownsRow_empty (two0 _ _ _) (Nat.le_refl _)); (exact hS _ (below2 _ _ _).drew); (omega); (first | (simp; done) | (simp; omega)); intro v' w' hown hg; simp only [Nat.zero_add, List.nil_append] at hown; have hb' : Below w4.heap.size w4 w' := (below2 w4 (.cells #[] 27) (.cells #[.int .i64 91, .int .u64 5, .int .u64 0, .int .i64 0] 27)).drew.trans (grown_below' hg (fun k hk => (by have h9 : w4.heap.size = k := Option.some.inj hk; omega)) (by simp; omega)); have hMM : w'.heap[w4.heap.size + 1]? = some (.cells #[.int .i64 91, .int .u64 5, .int .u64 0, .int .i64 0] 27) := (hg.block _ (by simp) (fun e => by have h9 : w4.heap.size + 1 = w4.heap.size := Option.some.inj e; omega)).trans (two1 _ _ _); clear hg)
          | (refine step_append_src rfl _ _ rfl w4.heap.size i0 hi hz0 hz1 hz2 (.slice (some ⟨w4.heap.size + 1, 0, none⟩) 0 0) 0 [] rfl ?_ za zs.length zc (flat zs) rfl ?_ ?_ ?_ ?_; (exact ownsRow_empty (two1 _ _ _) (by omega)); (exact hS _ (below2 _ _ _).drew); (omega); (first | (simp; done) | (simp; omega)); intro v' w' hown hg; simp only [Nat.zero_add, List.nil_append] at hown; have hb' : Below w4.heap.size w4 w' := (below2 w4 (.cells #[.int .i64 91, .int .u64 5, .int .u64 0, .int .i64 0] 27) (.cells #[] 27)).drew.trans (grown_below' hg (fun k hk => (by have h9 : w4.heap.size + 1 = k := Option.some.inj hk; omega)) (by simp; omega)); have hMM : w'.heap[w4.heap.size]? = some (.cells #[.int .i64 91, .int .u64 5, .int .u64 0, .int .i64 0] 27) := (hg.block _ (by simp; omega) (fun e => by have h9 : w4.heap.size = w4.heap.size + 1 := Option.some.inj e; omega)).trans (two0 _ _ _); clear hg)
          | (refine step_append_src rfl _ _ rfl w4.heap.size i0 hi hz0 hz1 hz2 v' zs.length (flat zs) rfl ?_ (some ⟨w'.heap.size, 0, none⟩) 1 1 (flat [markP]) rfl ?_ ?_ ?_ ?_; (exact hown.alloc _); (exact mark_src (newAt _ _ rfl)); (omega); (have h9 := hb'.size; first | (simp; done) | (simp; omega)); intro v'' w'' hown2 hg2; have HCP : Hid (Copied w4 zs v'' w'') := Lib.hid (Copied.of (hb'.alloc hb'.size (.cells #[.int .i64 91, .int .u64 5, .int .u64 0, .int .i64 0] 27)) (hown.alloc (.cells #[.int .i64 91, .int .u64 5, .int .u64 0, .int .i64 0] 27)) hown2 hg2); clear hown2 hg2)
          | (refine step_append_src rfl _ _ rfl w4.heap.size i0 hi hz0 hz1 hz2 v' zs.length (flat zs) rfl ?_ (some ⟨w4.heap.size + 1, 0, none⟩) 1 1 (flat [markP]) rfl ?_ ?_ ?_ ?_; (exact hown); (exact mark_src hMM); (omega); (exact hb'.size); intro v'' w'' hown2 hg2; have HCP : Hid (Copied w4 zs v'' w'') := Lib.hid (Copied.of hb' hown hown2 hg2); clear hown2 hg2)
          | (refine step_append_src rfl _ _ rfl w4.heap.size i0 hi hz0 hz1 hz2 v' zs.length (flat zs) rfl ?_ (some ⟨w4.heap.size, 0, none⟩) 1 1 (flat [markP]) rfl ?_ ?_ ?_ ?_; (exact hown); (exact mark_src hMM); (omega); (exact hb'.size); intro v'' w'' hown2 hg2; have HCP : Hid (Copied w4 zs v'' w'') := Lib.hid (Copied.of hb' hown hown2 hg2); clear hown2 hg2))
        all_goals (go_wp2_with fail; go_meet)
        all_goals exact HCP.out
      case rest =>
        obtain ⟨w5, rfl⟩ : ∃ w5 : World, w5 = wc := ⟨_, rfl⟩
        obtain ⟨hcp, hbc⟩ := hcut
        have HKN := Lib.hid (HK.out.step hbc)
        clear HK
        have HK := HKN
        clear HKN hA1 hA2 hB1 hB2 hS hws hbw hlt k0 k1 k2 k3 m0 m1 m2 m3 hM hlo
        obtain ⟨⟨⟨hbw, hlt, k0, k1, k2, k3⟩, -, -⟩, ⟨m0, m1, m2, m3⟩, hM, hlo⟩ := HK.out
        simp only at k0 k1 k2 k3
        simp only [markP] at m0 m1 m2 m3
        obtain ⟨z, kz, rfl, hkz, h1, h2⟩ := own_slice hcp HC.out.z.wf (by omega)
        have HRZ := Lib.hid (KRow.mk h1 h2 hkz)
        clear h1 h2 hcp
        replace HRG := Lib.hid (HRG.out.step hbc)
        replace HRX := Lib.hid (HRX.out.step hbc)
        clear hbc
        have ig : (gs.length : Int) ≤ kg := by omega
        have ix : (xs.length : Int) ≤ kx := by omega
        have iz : (zs.length : Int) ≤ kz := by omega
        go_wp2_with fail
        go_region
        have HDG := Lib.hid (KF.mk (HK.out.step ((below1 w5 (.cells #[.int .i64 n, .slice (some ⟨g, 0, none⟩) gs.length kg, .slice (some ⟨x, 0, none⟩) xs.length kx, .slice (some ⟨z, 0, none⟩) zs.length kz] 24)).drew)) (BoxAt.ofH (c := ⟨n, some ⟨g, 0, none⟩, kg, gs, some ⟨x, 0, none⟩, kx, xs, some ⟨z, 0, none⟩, kz, zs⟩) (one0 w5 (.cells #[.int .i64 n, .slice (some ⟨g, 0, none⟩) gs.length kg, .slice (some ⟨x, 0, none⟩) xs.length kx, .slice (some ⟨z, 0, none⟩) zs.length kz] 24))) (HRG.out.step ((below1 w5 (.cells #[.int .i64 n, .slice (some ⟨g, 0, none⟩) gs.length kg, .slice (some ⟨x, 0, none⟩) xs.length kx, .slice (some ⟨z, 0, none⟩) zs.length kz] 24)).drew)) (HRX.out.step ((below1 w5 (.cells #[.int .i64 n, .slice (some ⟨g, 0, none⟩) gs.length kg, .slice (some ⟨x, 0, none⟩) xs.length kx, .slice (some ⟨z, 0, none⟩) zs.length kz] 24)).drew)) (HRZ.out.step ((below1 w5 (.cells #[.int .i64 n, .slice (some ⟨g, 0, none⟩) gs.length kg, .slice (some ⟨x, 0, none⟩) xs.length kx, .slice (some ⟨z, 0, none⟩) zs.length kz] 24)).drew)))
        have HN := Lib.hid HC.out.n
        have hA : Alike ⟨n, some ⟨g, 0, none⟩, kg, gs, some ⟨x, 0, none⟩, kx, xs, some ⟨z, 0, none⟩, kz, zs⟩ ⟨n, ga, gc, gs, xa, xc, xs, za, zc, zs⟩ := ⟨rfl, rfl, rfl, rfl⟩
        have c10 := fun W h => check_c ⟨n, some ⟨g, 0, none⟩, kg, gs, some ⟨x, 0, none⟩, kx, xs, some ⟨z, 0, none⟩, kz, zs⟩ W h
        have c12 := fun W h => syndrome_calls ⟨n, some ⟨g, 0, none⟩, kg, gs, some ⟨x, 0, none⟩, kx, xs, some ⟨z, 0, none⟩, kz, zs⟩ p W h hp
        have c14 := fun W h => logicalof_calls ⟨n, some ⟨g, 0, none⟩, kg, gs, some ⟨x, 0, none⟩, kx, xs, some ⟨z, 0, none⟩, kz, zs⟩ p W h hp
        have c16 := fun W h => distance_calls ⟨n, some ⟨g, 0, none⟩, kg, gs, some ⟨x, 0, none⟩, kx, xs, some ⟨z, 0, none⟩, kz, zs⟩ W h
        have c18 := fun W h => decode_calls ⟨n, some ⟨g, 0, none⟩, kg, gs, some ⟨x, 0, none⟩, kx, xs, some ⟨z, 0, none⟩, kz, zs⟩ (synV ⟨n, ga, gc, gs, xa, xc, xs, za, zc, zs⟩ p) W h (synV_U ⟨n, ga, gc, gs, xa, xc, xs, za, zc, zs⟩ p)
        have c13 := fun W (h : Below w.heap.size w W) => refsyndrome_calls ⟨n, ga, gc, gs, xa, xc, xs, za, zc, zs⟩ p W (HC.out.below h) hp
        have c11 := fun W (h : Below w.heap.size w W) => refcheck_c ⟨n, ga, gc, gs, xa, xc, xs, za, zc, zs⟩ W (HC.out.below h)
        have c22 := fun W h (h' : Below w.heap.size w W) => same_calls ⟨n, some ⟨g, 0, none⟩, kg, gs, some ⟨x, 0, none⟩, kx, xs, some ⟨z, 0, none⟩, kz, zs⟩ ⟨n, ga, gc, gs, xa, xc, xs, za, zc, zs⟩ W h (HC.out.below h') true (iff_of_true rfl hA)
        have c23 := fun W => refcheck_p p hp W
        have c24 := fun W => check_p p hp W
        rw [hA.errC] at c10
        rw [hA.synV p, hA.err2 p] at c12
        have xg := idx22 g (gs.length + 1) kg gs.length (by omega)
        have xx := idx22 x (xs.length + 1) kx xs.length (by omega)
        have xz := idx22 z (zs.length + 1) kz zs.length (by omega)
        clear hA hp HSG HSX HSZ HK HRG HRX HRZ hbw hlt k0 k1 k2 k3 m0 m1 m2 m3 hM
        generalize errC ⟨n, ga, gc, gs, xa, xc, xs, za, zc, zs⟩ = ec at c10 c11
        generalize synV ⟨n, ga, gc, gs, xa, xc, xs, za, zc, zs⟩ p = sv at c12 c13 c18
        generalize err2 ⟨n, ga, gc, gs, xa, xc, xs, za, zc, zs⟩ p = e2 at c12 c13
        generalize logV ⟨n, some ⟨g, 0, none⟩, kg, gs, some ⟨x, 0, none⟩, kx, xs, some ⟨z, 0, none⟩, kz, zs⟩ p = lv at c14
        generalize logE ⟨n, some ⟨g, 0, none⟩, kg, gs, some ⟨x, 0, none⟩, kx, xs, some ⟨z, 0, none⟩, kz, zs⟩ p = le at c14
        generalize distV ⟨n, some ⟨g, 0, none⟩, kg, gs, some ⟨x, 0, none⟩, kx, xs, some ⟨z, 0, none⟩, kz, zs⟩ = dv at c16
        generalize distE ⟨n, some ⟨g, 0, none⟩, kg, gs, some ⟨x, 0, none⟩, kx, xs, some ⟨z, 0, none⟩, kz, zs⟩ = de at c16
        generalize decV ⟨n, some ⟨g, 0, none⟩, kg, gs, some ⟨x, 0, none⟩, kx, xs, some ⟨z, 0, none⟩, kz, zs⟩ sv = qv at c18
        generalize decE ⟨n, some ⟨g, 0, none⟩, kg, gs, some ⟨x, 0, none⟩, kx, xs, some ⟨z, 0, none⟩, kz, zs⟩ sv = qe at c18
        generalize errP p = ep at c23 c24
        generalize w5.heap.size = B9 at HDG ⊢
        generalize (w5.alloc (.cells #[.int .i64 n, .slice (some ⟨g, 0, none⟩) gs.length kg, .slice (some ⟨x, 0, none⟩) xs.length kx, .slice (some ⟨z, 0, none⟩) zs.length kz] 24)).drew = w6 at HDG ⊢
        simp only at c10 c11 c12 c13 c14 c16 c18 c22
        obtain ⟨⟨⟨⟨-, hlt, k0, k1, k2, k3⟩, ⟨p0, p1, p2, p3⟩, -⟩, ⟨m0, m1, m2, m3⟩, hM, -⟩, ⟨l9, d0, d1, d2, d3⟩, ⟨-, g4, -⟩, ⟨-, x4, -⟩, ⟨-, z4, -⟩⟩ := HDG.out
        simp only at k0 k1 k2 k3 d0 d1 d2 d3
        go_wp2_with fail
        go_at_call 10
        refine (c10 _ (HDG.out.codeD HN.out)).mono ?_
        rintro e w7 ⟨rfl, hb⟩
        replace HDG := Lib.hid (HDG.out.step hb)
        clear hb hlt k0 k1 k2 k3 p0 p1 p2 p3 m0 m1 m2 m3 hM l9 d0 d1 d2 d3 g4 x4 z4
        obtain ⟨⟨⟨⟨-, hlt, k0, k1, k2, k3⟩, ⟨p0, p1, p2, p3⟩, -⟩, ⟨m0, m1, m2, m3⟩, hM, -⟩, ⟨l9, d0, d1, d2, d3⟩, ⟨-, g4, -⟩, ⟨-, x4, -⟩, ⟨-, z4, -⟩⟩ := HDG.out
        simp only at k0 k1 k2 k3 d0 d1 d2 d3
        go_wp2_with fail
        go_at_call 12
        refine (c12 _ (HDG.out.codeD HN.out)).mono ?_
        rintro e w8 ⟨rfl, hb⟩
        replace HDG := Lib.hid (HDG.out.step hb)
        clear hb hlt k0 k1 k2 k3 p0 p1 p2 p3 m0 m1 m2 m3 hM l9 d0 d1 d2 d3 g4 x4 z4
        obtain ⟨⟨⟨⟨-, hlt, k0, k1, k2, k3⟩, ⟨p0, p1, p2, p3⟩, -⟩, ⟨m0, m1, m2, m3⟩, hM, -⟩, ⟨l9, d0, d1, d2, d3⟩, ⟨-, g4, -⟩, ⟨-, x4, -⟩, ⟨-, z4, -⟩⟩ := HDG.out
        simp only at k0 k1 k2 k3 d0 d1 d2 d3
        go_wp2_with fail
        go_at_call 14
        refine (c14 _ (HDG.out.codeD HN.out)).mono ?_
        rintro e w9 ⟨rfl, hb⟩
        replace HDG := Lib.hid (HDG.out.step hb)
        clear hb hlt k0 k1 k2 k3 p0 p1 p2 p3 m0 m1 m2 m3 hM l9 d0 d1 d2 d3 g4 x4 z4
        obtain ⟨⟨⟨⟨-, hlt, k0, k1, k2, k3⟩, ⟨p0, p1, p2, p3⟩, -⟩, ⟨m0, m1, m2, m3⟩, hM, -⟩, ⟨l9, d0, d1, d2, d3⟩, ⟨-, g4, -⟩, ⟨-, x4, -⟩, ⟨-, z4, -⟩⟩ := HDG.out
        simp only at k0 k1 k2 k3 d0 d1 d2 d3
        go_wp2_with fail
        go_at_call 16
        refine (c16 _ (HDG.out.codeD HN.out)).mono ?_
        rintro e w10 ⟨rfl, hb⟩
        replace HDG := Lib.hid (HDG.out.step hb)
        clear hb hlt k0 k1 k2 k3 p0 p1 p2 p3 m0 m1 m2 m3 hM l9 d0 d1 d2 d3 g4 x4 z4
        obtain ⟨⟨⟨⟨-, hlt, k0, k1, k2, k3⟩, ⟨p0, p1, p2, p3⟩, -⟩, ⟨m0, m1, m2, m3⟩, hM, -⟩, ⟨l9, d0, d1, d2, d3⟩, ⟨-, g4, -⟩, ⟨-, x4, -⟩, ⟨-, z4, -⟩⟩ := HDG.out
        simp only at k0 k1 k2 k3 d0 d1 d2 d3
        go_wp2_with fail
        go_at_call 18
        refine (c18 _ (HDG.out.codeD HN.out)).mono ?_
        rintro e w11 ⟨rfl, hb⟩
        replace HDG := Lib.hid (HDG.out.step hb)
        clear hb hlt k0 k1 k2 k3 p0 p1 p2 p3 m0 m1 m2 m3 hM l9 d0 d1 d2 d3 g4 x4 z4
        obtain ⟨⟨⟨⟨-, hlt, k0, k1, k2, k3⟩, ⟨p0, p1, p2, p3⟩, -⟩, ⟨m0, m1, m2, m3⟩, hM, -⟩, ⟨l9, d0, d1, d2, d3⟩, ⟨-, g4, -⟩, ⟨-, x4, -⟩, ⟨-, z4, -⟩⟩ := HDG.out
        simp only at k0 k1 k2 k3 d0 d1 d2 d3
        go_wp2_with fail
        go_at_call 13
        refine (c13 _ HDG.out.k.two.box.below).mono ?_
        rintro e w12 ⟨rfl, hb⟩
        replace HDG := Lib.hid (HDG.out.step hb)
        clear hb hlt k0 k1 k2 k3 p0 p1 p2 p3 m0 m1 m2 m3 hM l9 d0 d1 d2 d3 g4 x4 z4
        obtain ⟨⟨⟨⟨-, hlt, k0, k1, k2, k3⟩, ⟨p0, p1, p2, p3⟩, -⟩, ⟨m0, m1, m2, m3⟩, hM, -⟩, ⟨l9, d0, d1, d2, d3⟩, ⟨-, g4, -⟩, ⟨-, x4, -⟩, ⟨-, z4, -⟩⟩ := HDG.out
        simp only at k0 k1 k2 k3 d0 d1 d2 d3
        obtain ⟨g0, g1, g2, g3⟩ := g4
        obtain ⟨x0, x1, x2, x3⟩ := x4
        obtain ⟨z0, z1, z2, z3⟩ := z4
        simp only [markP] at g0 g1 g2 g3 x0 x1 x2 x3 z0 z1 z2 z3 m0 m1 m2 m3
        have bq := fun d os => below_regrown w12 d os
        have lk : ∀ b, b < w12.heap.size → ∀ d os o, (Go.Sort.grow (redrawn w12 d) os).cell? ⟨b, o, none⟩ = w12.cell? ⟨b, o, none⟩ := fun b hb d os o => (bq d os).cell (p := ⟨b, o, none⟩) hb
        have lk0 := lk w.heap.size hlt
        have lk1 := lk (w.heap.size + 1) HDG.out.k.two.lt
        have lk2 := lk M hM
        have lk3 := lk B9 l9
        have lk4 := lk g (block_lt g0)
        have lk5 := lk x (block_lt x0)
        have lk6 := lk z (block_lt z0)
        have c11q := fun d os => c11 (Go.Sort.grow (redrawn w12 d) os) (HDG.out.step (bq d os)).k.two.box.below
        have c22q := fun d os => c22 (Go.Sort.grow (redrawn w12 d) os) ((HDG.out.step (bq d os)).codeD HN.out) (HDG.out.step (bq d os)).k.two.box.below
        have c23q := fun d os => c23 (Go.Sort.grow (redrawn w12 d) os)
        have c24q := fun d os => c24 (Go.Sort.grow (redrawn w12 d) os)
        clear c10 c11 c12 c13 c14 c16 c18 c22 c23 c24 lk bq hlt hM l9
        go_wp2_with fail
        refine wp_region_quiet_below (by assumption) (by kernel_rfl) ?_
        repeat (go_big_quiet_step (first | (go_at_call 11; with_reducible exact Calls.regrown_of (c11q _ _)) | (go_at_call 22; with_reducible exact Calls.regrown_of (c22q _ _)) | (go_at_call 23; with_reducible exact Calls.regrown_of (c23q _ _)) | (go_at_call 24; with_reducible exact Calls.regrown_of (c24q _ _))))
        refine wpQuiet_nil ?_
        intro _ hw'
        obtain ⟨⟨nq, osq⟩, hw''⟩ := hw'
        subst hw''
        go_wp2
        go_ret
        exact ⟨rfl, (HDG.out.step (below_regrown w12 nq osq)).k.two.box.below⟩
end Go.Proofs.Ytfnmembjgclhoaa.CD
