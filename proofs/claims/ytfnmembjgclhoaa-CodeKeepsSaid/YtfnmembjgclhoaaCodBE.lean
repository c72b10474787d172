/- CodeProducts: walked. -/
import Derived.Test.YtfnmembjgclhoaaCodBD
import Derived.Test.YtfnmembjgclhoaaCodAR
import Derived.Deep.CutRange
import Derived.Deep.RegionWith
namespace Go.Proofs.Ytfnmembjgclhoaa.CD
open Go Go.RowKit
set_option linter.unusedVariables false
set_option linter.unusedSimpArgs false
open B (pcs ofB)

/-- A job's box. -/
structure BoxJ (w : World) (c : Cod) (p q : Pau) (k : Nat) (W : World) : Prop where
  below : Below w.heap.size w W
  lt : w.heap.size < W.heap.size
  c0 : W.cell? ⟨w.heap.size, 0, none⟩ = some (.int .i64 c.n)
  c1 : W.cell? ⟨w.heap.size, 1, none⟩ = some (Value.slice c.ga c.gs.length c.gc)
  c2 : W.cell? ⟨w.heap.size, 2, none⟩ = some (Value.slice c.xa c.xs.length c.xc)
  c3 : W.cell? ⟨w.heap.size, 3, none⟩ = some (Value.slice c.za c.zs.length c.zc)
  p0 : W.cell? ⟨w.heap.size, 4, none⟩ = some (.int .i64 p.n)
  p1 : W.cell? ⟨w.heap.size, 5, none⟩ = some (.int .u64 p.x)
  p2 : W.cell? ⟨w.heap.size, 6, none⟩ = some (.int .u64 p.z)
  p3 : W.cell? ⟨w.heap.size, 7, none⟩ = some (.int .i64 p.ph)
  q0 : W.cell? ⟨w.heap.size, 8, none⟩ = some (.int .i64 q.n)
  q1 : W.cell? ⟨w.heap.size, 9, none⟩ = some (.int .u64 q.x)
  q2 : W.cell? ⟨w.heap.size, 10, none⟩ = some (.int .u64 q.z)
  q3 : W.cell? ⟨w.heap.size, 11, none⟩ = some (.int .i64 q.ph)
  k0 : W.cell? ⟨w.heap.size, 12, none⟩ = some (.int .u64 k)
theorem BoxJ.start (w : World) (c : Cod) (p q : Pau) (k : Nat) : BoxJ w c p q k (w.alloc (.cells #[.int .i64 c.n, (Value.slice c.ga c.gs.length c.gc), (Value.slice c.xa c.xs.length c.xc), (Value.slice c.za c.zs.length c.zc), .int .i64 p.n, .int .u64 p.x, .int .u64 p.z, .int .i64 p.ph, .int .i64 q.n, .int .u64 q.x, .int .u64 q.z, .int .i64 q.ph, .int .u64 k] 58)) :=
  ⟨below1 _ _, by simp, cell_of (newAt _ _ rfl) rfl, cell_of (newAt _ _ rfl) rfl, cell_of (newAt _ _ rfl) rfl, cell_of (newAt _ _ rfl) rfl, cell_of (newAt _ _ rfl) rfl, cell_of (newAt _ _ rfl) rfl, cell_of (newAt _ _ rfl) rfl, cell_of (newAt _ _ rfl) rfl, cell_of (newAt _ _ rfl) rfl, cell_of (newAt _ _ rfl) rfl, cell_of (newAt _ _ rfl) rfl, cell_of (newAt _ _ rfl) rfl, cell_of (newAt _ _ rfl) rfl⟩
theorem BoxJ.step {w W W' : World} {c : Cod} {p q : Pau} {k : Nat} (h : BoxJ w c p q k W) (hb : Below W.heap.size W W') : BoxJ w c p q k W' := by
  have hh : ∀ o, W'.cell? ⟨w.heap.size, o, none⟩ = W.cell? ⟨w.heap.size, o, none⟩ := fun o => hb.cell (p := ⟨w.heap.size, o, none⟩) h.lt
  exact ⟨h.below.trans (hb.mono h.below.size), Nat.lt_of_lt_of_le h.lt hb.size, (hh 0).trans h.c0, (hh 1).trans h.c1, (hh 2).trans h.c2, (hh 3).trans h.c3, (hh 4).trans h.p0, (hh 5).trans h.p1, (hh 6).trans h.p2, (hh 7).trans h.p3, (hh 8).trans h.q0, (hh 9).trans h.q1, (hh 10).trans h.q2, (hh 11).trans h.q3, (hh 12).trans h.k0⟩

theorem lt_of_heap {W : World} {B : Nat} {o : Obj} (h : W.heap[B]? = some o) : B < W.heap.size := (Array.getElem?_eq_some_iff.1 h).1
theorem BoxAt.ofH {W : World} {B : Nat} {c : Cod} (h : W.heap[B]? = some (.cells #[.int .i64 c.n, (Value.slice c.ga c.gs.length c.gc), (Value.slice c.xa c.xs.length c.xc), (Value.slice c.za c.zs.length c.zc)] 24)) : BoxAt W B c :=
  ⟨lt_of_heap h, cell_of h rfl, cell_of h rfl, cell_of h rfl, cell_of h rfl⟩
theorem three0 (W : World) (o1 o2 o3 : Obj) : (((W.alloc o1).alloc o2).alloc o3).drew.heap[W.heap.size]? = some o1 := by
  show (((W.alloc o1).alloc o2).alloc o3).heap[W.heap.size]? = some o1
  rw [Below.heap_alloc _ _ _ (by simp; omega), Below.heap_alloc _ _ _ (by simp)]
  exact newAt _ _ rfl
theorem three1 (W : World) (o1 o2 o3 : Obj) : (((W.alloc o1).alloc o2).alloc o3).drew.heap[W.heap.size + 1]? = some o2 := by
  show (((W.alloc o1).alloc o2).alloc o3).heap[W.heap.size + 1]? = some o2
  rw [Below.heap_alloc _ _ _ (by simp)]
  exact newAt _ _ (by simp)
theorem three2 (W : World) (o1 o2 o3 : Obj) : (((W.alloc o1).alloc o2).alloc o3).drew.heap[W.heap.size + 1 + 1]? = some o3 := by
  show (((W.alloc o1).alloc o2).alloc o3).heap[W.heap.size + 1 + 1]? = some o3
  exact newAt _ _ (by simp)
/-- The job's parts, each in a box. -/
structure NJ (w : World) (c : Cod) (p q : Pau) (b3 b4 b5 : Nat) (W : World) : Prop where
  below : Below w.heap.size w W
  c : BoxAt W b3 c
  p : Cells4 W b4 0 p
  q : Cells4 W b5 0 q
  lp : b4 < W.heap.size
  lq : b5 < W.heap.size
theorem NJ.step {w W W' : World} {c : Cod} {p q : Pau} {b3 b4 b5 : Nat} (h : NJ w c p q b3 b4 b5 W) (hb : Below W.heap.size W W') : NJ w c p q b3 b4 b5 W' :=
  ⟨h.below.trans (hb.mono h.below.size), h.c.step hb, h.p.below h.lp hb, h.q.below h.lq hb, Nat.lt_of_lt_of_le h.lp hb.size, Nat.lt_of_lt_of_le h.lq hb.size⟩

/-- The product of the generators that were picked. -/
structure AllSt (w : World) (c : Cod) (b3 P : Nat) (W : World) (a : Pau) : Prop where
  below : Below w.heap.size w W
  box : BoxAt W b3 c
  rows : RowsP W P [a]
  lo : w.heap.size ≤ P
  ne : b3 ≠ P
  ok : Ok a
  an : a.n = c.n
  qg : Quiet c.gs a
  qx : Quiet c.xs a
  qz : Quiet c.zs a
theorem AllSt.step {w W W' : World} {c : Cod} {b3 P : Nat} {a : Pau} (h : AllSt w c b3 P W a) (hb : Below W.heap.size W W') : AllSt w c b3 P W' a :=
  ⟨h.below.trans (hb.mono h.below.size), h.box.step hb, h.rows.below h.rows.lt hb, h.lo, h.ne, h.ok, h.an, h.qg, h.qx, h.qz⟩
theorem AllSt.start {w W : World} {c : Cod} {b3 : Nat} (hb : Below w.heap.size w W) (hx : BoxAt W b3 c) (hg : Good c) :
    AllSt w c b3 W.heap.size (W.alloc (.cells #[.int .i64 c.n, .int .u64 0, .int .u64 0, .int .i64 0] 27)) ⟨c.n, 0, 0, 0⟩ := by
  refine ⟨hb.alloc hb.size _, hx.step (below1 _ _), ⟨fun k hk => ?_, fun i => free_of (newAt _ _ rfl), by simp⟩, hb.size, Nat.ne_of_lt hx.lt, ⟨by have := hg.n1; simp only; omega, hg.n2, by simp, by simp, Nat.two_pow_pos _, Nat.two_pow_pos _⟩, rfl, fun g _ => apt_eye g _ _, fun g _ => apt_eye g _ _, fun g _ => apt_eye g _ _⟩
  obtain rfl : k = 0 := by simpa using hk
  exact Cells4.of (p := ⟨c.n, 0, 0, 0⟩) (newAt _ _ rfl)
theorem AllSt.put {w W : World} {c : Cod} {b3 P : Nat} {a g : Pau} (h : AllSt w c b3 P W a) (hg : Good c) (hm : g ∈ c.gs) : AllSt w c b3 P (set4 W P 0 (mulP a g)) (mulP a g) := by
  have hf := hg.fg g hm
  have hq := hg.quiet hm
  exact ⟨Below.set4 h.below h.lo 0 _, Only.box ((Only.refl (· = P) W).set4 rfl 0 _) h.box h.ne, h.rows.store (k := 0) (by simp) _, h.lo, h.ne, mulP_ok h.ok hf.1 (h.an.trans hf.2.1.symm), h.an, h.qg.mul hq.1, h.qx.mul hq.2.1, h.qz.mul hq.2.2⟩

theorem mul_any (p q : Pau) (hp : WF p) (hq : WF q) (w : World) : Calls Try.prog 25 #[(Value.agg #[.int .i64 p.n, .int .u64 p.x, .int .u64 p.z, .int .i64 p.ph]), (Value.agg #[.int .i64 q.n, .int .u64 q.x, .int .u64 q.z, .int .i64 q.ph])] w fun e w' => (∃ (r : Pau) (g : Int), e = .returned (.tuple #[(Value.agg #[.int .i64 r.n, .int .u64 r.x, .int .u64 r.z, .int .i64 r.ph]), .int .i64 g])) ∧ Below w.heap.size w w' := by
  by_cases h : errM p q = 0
  · have h3 : Ok p ∧ Ok q ∧ p.n = q.n := by
      unfold errM at h
      split at h
      · split at h
        · split at h
          · exact ⟨by assumption, by assumption, by assumption⟩
          · omega
        · omega
      · omega
    exact (mul_ok p q hp hq h3.1 h3.2.1 h3.2.2 w).mono fun e w' ⟨he, hb⟩ => ⟨⟨mulP p q, 0, he⟩, hb⟩
  · exact (mul_bad p q hp hq h w).mono fun e w' ⟨he, hb⟩ => ⟨⟨⟨0, 0, 0, 0⟩, errM p q, he⟩, hb⟩

set_option maxRecDepth 100000 in
set_option maxHeartbeats 64000000 in
theorem products_walk (c : Cod) (p q : Pau) (k : Nat) (w : World) (hc : CodAt w c) (hp : WF p) (hq : WF q) (hk : U k) : Calls Try.prog 7 #[.agg #[.int .i64 c.n, .slice c.ga c.gs.length c.gc, .slice c.xa c.xs.length c.xc, .slice c.za c.zs.length c.zc, .int .i64 p.n, .int .u64 p.x, .int .u64 p.z, .int .i64 p.ph, .int .i64 q.n, .int .u64 q.x, .int .u64 q.z, .int .i64 q.ph, .int .u64 k]] w fun e w' => e = .returned (.bool true) ∧ Below w.heap.size w w' := by
  have HJ := Lib.hid (BoxJ.start w c p q k)
  have HC := Lib.hid hc
  have hp12 := fun W (h : Below w.heap.size w W) => syndrome_calls c p W (hc.below h) hp
  have hq12 := fun W (h : Below w.heap.size w W) => syndrome_calls c q W (hc.below h) hq
  have h25 := fun W => mul_any p q hp hq W
  have HP := Lib.hid hp
  have HQ := Lib.hid hq
  clear hc hp hq
  obtain ⟨n, ga, gc, gs, xa, xc, xs, za, zc, zs⟩ := c
  simp only at HJ hp12 hq12
  have mixed := mixed
  go_enter Try.func7, Try.ntmps7
  go_wp2_with fail
  go_at_call 9
  refine (alive_calls _).mono ?_
  rintro e w1 ⟨rfl, hb⟩
  replace HJ := Lib.hid (HJ.out.step hb)
  clear hb
  obtain ⟨-, hlt, c0, c1, c2, c3, p0, p1, p2, p3, q0, q1, q2, q3, k0⟩ := HJ.out
  have hA1 : ∀ (o1 : Obj) o, (w1.alloc o1).cell? ⟨w.heap.size, o, none⟩ = w1.cell? ⟨w.heap.size, o, none⟩ := fun o1 o => (below1 w1 o1).cell (p := ⟨w.heap.size, o, none⟩) hlt
  have hA2 : ∀ (o1 o2 : Obj) o, ((w1.alloc o1).alloc o2).cell? ⟨w.heap.size, o, none⟩ = w1.cell? ⟨w.heap.size, o, none⟩ := fun o1 o2 o => (below2 w1 o1 o2).cell (p := ⟨w.heap.size, o, none⟩) hlt
  have hA3 : ∀ (o1 o2 o3 : Obj) o, (((w1.alloc o1).alloc o2).alloc o3).cell? ⟨w.heap.size, o, none⟩ = w1.cell? ⟨w.heap.size, o, none⟩ := fun o1 o2 o3 o => ((below2 w1 o1 o2).alloc (by simp; omega) o3).cell (p := ⟨w.heap.size, o, none⟩) hlt
  go_wp2_with fail
  go_cut [3, 4, 5, 6] from 30 to 37 (fun s3 s4 s5 s6 W => ∃ b3 b4 b5, s3 = .pointer (some ⟨b3, 0, none⟩) ∧ s4 = .pointer (some ⟨b4, 0, none⟩) ∧ s5 = .pointer (some ⟨b5, 0, none⟩) ∧ s6 = .int .u64 k ∧ NJ w ⟨n, ga, gc, gs, xa, xc, xs, za, zc, zs⟩ p q b3 b4 b5 W)
  case first =>
    clear hp12 hq12 h25
    go_region
    all_goals (go_wp2_with fail; go_meet)
    all_goals
      refine ⟨_, _, _, rfl, rfl, rfl, rfl, ⟨(((HJ.out.below.alloc HJ.out.below.size _).alloc (by have := HJ.out.below.size; simp; omega) _).alloc (by have := HJ.out.below.size; simp; omega) _).drew, BoxAt.ofH ?_, Cells4.of ?_, Cells4.of ?_, lt_of_heap (o := (Obj.cells #[.int .i64 p.n, .int .u64 p.x, .int .u64 p.z, .int .i64 p.ph] 27)) ?_, lt_of_heap (o := (Obj.cells #[.int .i64 q.n, .int .u64 q.x, .int .u64 q.z, .int .i64 q.ph] 27)) ?_⟩⟩
      all_goals first | exact three0 _ _ _ _ | exact three1 _ _ _ _ | exact three2 _ _ _ _
  case rest =>
    obtain ⟨b3, b4, b5, rfl, rfl, rfl, rfl, hnj⟩ := hcut
    have HN := Lib.hid hnj
    clear hnj HJ hA1 hA2 hA3 c0 c1 c2 c3 p0 p1 p2 p3 q0 q1 q2 q3 k0 hlt
    obtain ⟨-, ⟨l3, c0, c1, c2, c3⟩, ⟨p0, p1, p2, p3⟩, ⟨q0, q1, q2, q3⟩, l4, l5⟩ := HN.out
    simp only at c0 c1 c2 c3
    by_cases A : err2 ⟨n, ga, gc, gs, xa, xc, xs, za, zc, zs⟩ p = 0
    · by_cases B : err2 ⟨n, ga, gc, gs, xa, xc, xs, za, zc, zs⟩ q = 0
      · clear h25
        have hgd := (good_of_err2 A).1
        have hop := (good_of_err2 A).2.1
        have hnp := (good_of_err2 A).2.2
        have hoq := (good_of_err2 B).2.1
        have hnq := (good_of_err2 B).2.2
        simp only at hnp hnq
        have hnpq : p.n = q.n := hnp.trans hnq.symm
        have hom := mulP_ok hop hoq hnpq
        have hem : err2 ⟨n, ga, gc, gs, xa, xc, xs, za, zc, zs⟩ (mulP p q) = 0 := err2_of hgd hom hnp
        have h25 := fun W => mul_ok p q HP.out HQ.out hop hoq hnpq W
        have hm12 := fun W (h : Below w.heap.size w W) => syndrome_calls ⟨n, ga, gc, gs, xa, xc, xs, za, zc, zs⟩ (mulP p q) W (HC.out.below h) hom.wf
        have hp14 := fun W (h : Below w.heap.size w W) => logicalof_calls ⟨n, ga, gc, gs, xa, xc, xs, za, zc, zs⟩ p W (HC.out.below h) HP.out
        have hq14 := fun W (h : Below w.heap.size w W) => logicalof_calls ⟨n, ga, gc, gs, xa, xc, xs, za, zc, zs⟩ q W (HC.out.below h) HQ.out
        have hm14 := fun W (h : Below w.heap.size w W) => logicalof_calls ⟨n, ga, gc, gs, xa, xc, xs, za, zc, zs⟩ (mulP p q) W (HC.out.below h) hom.wf
        have hsp : synV ⟨n, ga, gc, gs, xa, xc, xs, za, zc, zs⟩ p = synd gs p := synV_of A
        have hsq : synV ⟨n, ga, gc, gs, xa, xc, xs, za, zc, zs⟩ q = synd gs q := synV_of B
        have hsm : synV ⟨n, ga, gc, gs, xa, xc, xs, za, zc, zs⟩ (mulP p q) = synd gs p ^^^ synd gs q := (synV_of hem).trans (synd_mul gs p q)
        have ugl : gs.length ≤ 64 := hgd.gl
        have hxo : Go.bits .xor .u64 ((synd gs p : Nat) : Int) ((synd gs q : Nat) : Int) = ((synd gs p ^^^ synd gs q : Nat) : Int) := xor_eq (ofB_U _ ugl) (ofB_U _ ugl)
        have h26 := fun W => eye_calls n (by have := hgd.n1; simp only at this; omega) hgd.n2 W
        rw [hsp, A] at hp12
        rw [hsq, B] at hq12
        rw [hsm, hem] at hm12
        have hsy : synd gs (mulP p q) = synd gs p ^^^ synd gs q := synd_mul gs p q
        have HLM := Lib.hid (logic_mul xs zs p q)
        have HGD := Lib.hid hgd
        have HUX : Hid (U (logic xs zs p).x ∧ U (logic xs zs q).x ∧ U (logic xs zs p).z ∧ U (logic xs zs q).z) := Lib.hid (by
          have hl := hgd.len
          have hn2 := hgd.n2
          simp only at hl hn2
          have hx : xs.length ≤ 64 := by omega
          exact ⟨ofB_U _ hx, ofB_U _ hx, ofB_U _ hx, ofB_U _ hx⟩)
        by_cases S : synd gs p = 0
        · by_cases T : synd gs q = 0
          · rw [S, T] at hxo hm12
            rw [S] at hp12
            rw [T] at hq12
            have hlp : logV ⟨n, ga, gc, gs, xa, xc, xs, za, zc, zs⟩ p = logic xs zs p := logV_of A S
            have hlq : logV ⟨n, ga, gc, gs, xa, xc, xs, za, zc, zs⟩ q = logic xs zs q := logV_of B T
            have hlm : logV ⟨n, ga, gc, gs, xa, xc, xs, za, zc, zs⟩ (mulP p q) = logic xs zs (mulP p q) := logV_of hem (by rw [hsy, S, T]; rfl)
            rw [hlp, logE_of A S] at hp14
            rw [hlq, logE_of B T] at hq14
            rw [hlm, logE_of hem (by rw [hsy, S, T]; rfl)] at hm14
            have hm : logic xs zs (mulP p q) = ⟨xs.length, (logic xs zs p).x ^^^ (logic xs zs q).x, (logic xs zs p).z ^^^ (logic xs zs q).z, 0⟩ := by
              have h1 := HLM.out
              rw [← h1.1, ← h1.2]; rfl
            rw [hm] at hm14
            have hxx := xor_eq HUX.out.1 HUX.out.2.1
            have hzz := xor_eq HUX.out.2.2.1 HUX.out.2.2.2
            clear hm hlp hlq hlm HLM HUX
            clear hsp hsq hsm hsy hem A B hop hoq hnp hnq hnpq HP HQ
            clear S T
            generalize logic xs zs p = lp at *
            generalize logic xs zs q = lq at *
            generalize hX : lp.x ^^^ lq.x = X at *
            generalize hZ : lp.z ^^^ lq.z = Z at *
            clear hX hZ
            generalize mulP p q = m at *
            clear hom
            go_wp2_with fail
            go_at_call 12
            refine (hp12 _ HN.out.below).mono ?_
            rintro e w2 ⟨rfl, hb⟩
            replace HN := Lib.hid (HN.out.step hb)
            clear hb l3 c0 c1 c2 c3 p0 p1 p2 p3 q0 q1 q2 q3 l4 l5
            obtain ⟨-, ⟨l3, c0, c1, c2, c3⟩, ⟨p0, p1, p2, p3⟩, ⟨q0, q1, q2, q3⟩, l4, l5⟩ := HN.out
            simp only at c0 c1 c2 c3
            go_wp2_with fail
            go_at_call 12
            refine (hq12 _ HN.out.below).mono ?_
            rintro e w3 ⟨rfl, hb⟩
            replace HN := Lib.hid (HN.out.step hb)
            clear hb l3 c0 c1 c2 c3 p0 p1 p2 p3 q0 q1 q2 q3 l4 l5
            obtain ⟨-, ⟨l3, c0, c1, c2, c3⟩, ⟨p0, p1, p2, p3⟩, ⟨q0, q1, q2, q3⟩, l4, l5⟩ := HN.out
            simp only at c0 c1 c2 c3
            go_wp2_with fail
            go_at_call 25
            refine (h25 _).mono ?_
            rintro e w4 ⟨rfl, hb⟩
            replace HN := Lib.hid ((HN.out.step hb).step (below1 w4 (Obj.cells #[.int .i64 m.n, .int .u64 m.x, .int .u64 m.z, .int .i64 m.ph] 27)))
            have HM : Hid (Cells4 (w4.alloc (Obj.cells #[.int .i64 m.n, .int .u64 m.x, .int .u64 m.z, .int .i64 m.ph] 27)) w4.heap.size 0 m) := Lib.hid (Cells4.of (newAt _ _ rfl))
            have hMl : w4.heap.size < (w4.alloc (Obj.cells #[.int .i64 m.n, .int .u64 m.x, .int .u64 m.z, .int .i64 m.ph] 27)).heap.size := by simp
            clear hb l3 c0 c1 c2 c3 p0 p1 p2 p3 q0 q1 q2 q3 l4 l5
            obtain ⟨-, ⟨l3, c0, c1, c2, c3⟩, ⟨p0, p1, p2, p3⟩, ⟨q0, q1, q2, q3⟩, l4, l5⟩ := HN.out
            simp only at c0 c1 c2 c3
            obtain ⟨m0, m1, m2, m3⟩ := HM.out
            go_wp2_with fail
            go_at_call 12
            refine (hm12 _ HN.out.below).mono ?_
            rintro e w5 ⟨rfl, hb⟩
            have HM2 := Lib.hid (HM.out.below hMl hb)
            have hMl2 := Nat.lt_of_lt_of_le hMl hb.size
            clear HM hMl m0 m1 m2 m3
            have HM := HM2
            have hMl := hMl2
            clear HM2 hMl2
            obtain ⟨m0, m1, m2, m3⟩ := HM.out
            replace HN := Lib.hid (HN.out.step hb)
            clear hb l3 c0 c1 c2 c3 p0 p1 p2 p3 q0 q1 q2 q3 l4 l5
            obtain ⟨-, ⟨l3, c0, c1, c2, c3⟩, ⟨p0, p1, p2, p3⟩, ⟨q0, q1, q2, q3⟩, l4, l5⟩ := HN.out
            simp only at c0 c1 c2 c3
            go_wp2_with fail
            go_at_call 14
            refine (hp14 _ HN.out.below).mono ?_
            rintro e w6 ⟨rfl, hb⟩
            replace hb := hb.trans ((below1 w6 (Obj.cells #[.int .i64 lp.n, .int .u64 lp.x, .int .u64 lp.z, .int .i64 lp.ph] 27)).mono hb.size)
            have HM2 := Lib.hid (HM.out.below hMl hb)
            have hMl2 := Nat.lt_of_lt_of_le hMl hb.size
            clear HM hMl m0 m1 m2 m3
            have HM := HM2
            have hMl := hMl2
            clear HM2 hMl2
            obtain ⟨m0, m1, m2, m3⟩ := HM.out
            replace HN := Lib.hid (HN.out.step hb)
            clear hb l3 c0 c1 c2 c3 p0 p1 p2 p3 q0 q1 q2 q3 l4 l5
            obtain ⟨-, ⟨l3, c0, c1, c2, c3⟩, ⟨p0, p1, p2, p3⟩, ⟨q0, q1, q2, q3⟩, l4, l5⟩ := HN.out
            simp only at c0 c1 c2 c3
            have HA : Hid (Cells4 (w6.alloc (Obj.cells #[.int .i64 lp.n, .int .u64 lp.x, .int .u64 lp.z, .int .i64 lp.ph] 27)) w6.heap.size 0 lp) := Lib.hid (Cells4.of (newAt _ _ rfl))
            have hAl : w6.heap.size < (w6.alloc (Obj.cells #[.int .i64 lp.n, .int .u64 lp.x, .int .u64 lp.z, .int .i64 lp.ph] 27)).heap.size := by simp
            go_wp2_with fail
            go_at_call 14
            refine (hq14 _ HN.out.below).mono ?_
            rintro e w7 ⟨rfl, hb⟩
            replace hb := hb.trans ((below1 w7 (Obj.cells #[.int .i64 lq.n, .int .u64 lq.x, .int .u64 lq.z, .int .i64 lq.ph] 27)).mono hb.size)
            have HA2 := Lib.hid (HA.out.below hAl hb)
            have hAl2 := Nat.lt_of_lt_of_le hAl hb.size
            have HM2 := Lib.hid (HM.out.below hMl hb)
            have hMl2 := Nat.lt_of_lt_of_le hMl hb.size
            clear HM hMl m0 m1 m2 m3
            have HM := HM2
            have hMl := hMl2
            clear HM2 hMl2
            obtain ⟨m0, m1, m2, m3⟩ := HM.out
            replace HN := Lib.hid (HN.out.step hb)
            clear hb l3 c0 c1 c2 c3 p0 p1 p2 p3 q0 q1 q2 q3 l4 l5
            obtain ⟨-, ⟨l3, c0, c1, c2, c3⟩, ⟨p0, p1, p2, p3⟩, ⟨q0, q1, q2, q3⟩, l4, l5⟩ := HN.out
            simp only at c0 c1 c2 c3
            have HB : Hid (Cells4 (w7.alloc (Obj.cells #[.int .i64 lq.n, .int .u64 lq.x, .int .u64 lq.z, .int .i64 lq.ph] 27)) w7.heap.size 0 lq) := Lib.hid (Cells4.of (newAt _ _ rfl))
            have hBl : w7.heap.size < (w7.alloc (Obj.cells #[.int .i64 lq.n, .int .u64 lq.x, .int .u64 lq.z, .int .i64 lq.ph] 27)).heap.size := by simp
            go_wp2_with fail
            go_at_call 14
            refine (hm14 _ HN.out.below).mono ?_
            rintro e w8 ⟨rfl, hb⟩
            have HLM8 : Hid (Cells4 (w8.alloc (.cells #[.int .i64 xs.length, .int .u64 X, .int .u64 Z, .int .i64 0] 27)) w8.heap.size 0 ⟨xs.length, X, Z, 0⟩) := Lib.hid (Cells4.of (p := ⟨xs.length, X, Z, 0⟩) (newAt _ _ rfl))
            replace hb := hb.trans ((below1 w8 (.cells #[.int .i64 xs.length, .int .u64 X, .int .u64 Z, .int .i64 0] 27)).mono hb.size)
            obtain ⟨a0, a1, a2, a3⟩ := HA2.out.below hAl2 hb
            obtain ⟨d0, d1, d2, d3⟩ := HB.out.below hBl hb
            obtain ⟨e0, e1, e2, e3⟩ := HLM8.out
            simp only at e0 e1 e2 e3
            clear HM hMl m0 m1 m2 m3 HA HA2 HB hAl hAl2 hBl HLM8
            replace HN := Lib.hid (HN.out.step hb)
            clear hb l3 c0 c1 c2 c3 p0 p1 p2 p3 q0 q1 q2 q3 l4 l5
            obtain ⟨-, ⟨l3, c0, c1, c2, c3⟩, ⟨p0, p1, p2, p3⟩, ⟨q0, q1, q2, q3⟩, l4, l5⟩ := HN.out
            simp only at c0 c1 c2 c3
            go_wp2_with fail
            go_at_call 26
            refine (h26 _).mono ?_
            rintro e w9 ⟨rfl, hb⟩
            clear a0 a1 a2 a3 d0 d1 d2 d3 e0 e1 e2 e3
            have HN9 := HN.out.step hb
            have HST := Lib.hid (AllSt.start HN9.below HN9.c HGD.out)
            simp only at HST
            clear HN HN9 hb l3 c0 c1 c2 c3 p0 p1 p2 p3 q0 q1 q2 q3 l4 l5
            obtain ⟨-, ⟨-, c0, c1, c2, c3⟩, -, -, -, -, -, -, -, -⟩ := HST.out
            simp only at c0 c1 c2 c3
            clear hp12 hq12 hm12 hp14 hq14 h25 h26 hxo
            go_wp2_with fail
            generalize w9.heap.size = P at HST ⊢
            go_loopw [22, 23] (fun s22 s23 W => ∃ (m : Nat) (a : Pau), m ≤ gs.length ∧ s23 = .int .i64 m ∧ s22 = .int .i64 0 ∧ AllSt w ⟨n, ga, gc, gs, xa, xc, xs, za, zc, zs⟩ b3 P W a) (fun _ s23 _ => gs.length - (intOf s23).toNat)
            case atStart => exact ⟨0, _, Nat.zero_le _, rfl, rfl, HST.out⟩
            case round =>
              clear HST c0 c1 c2 c3
              obtain ⟨m, a, hm, rfl, rfl, hst⟩ := hrel
              have HST := Lib.hid hst
              obtain ⟨hbw, ⟨-, c0, c1, c2, c3⟩, hrw, -, -, hoa, -, -, -, -⟩ := hst
              obtain ⟨a0, a1, a2, a3⟩ := hrw.at_ 0 (by simp)
              have hfa := hrw.free
              simp only [List.getElem_cons_zero, Nat.zero_mul, Nat.zero_add] at a0 a1 a2 a3
              simp only at c0 c1 c2 c3
              by_cases hlt : m < gs.length
              · have hR := HC.out.g.below hbw
                obtain ⟨bg, og, hbg, hidx, g0, g1, g2, g3⟩ := hR.at m hlt
                have hmem := List.getElem_mem hlt
                have hwg := hR.wf _ hmem
                have hfg := HGD.out.fg _ hmem
                have h25 := fun W => mul_ok a gs[m] hoa.wf hwg hoa hfg.1 (HST.out.an.trans hfg.2.1.symm) W
                have HPUT := Lib.hid (fun W (h : AllSt w ⟨n, ga, gc, gs, xa, xc, xs, za, zc, zs⟩ b3 P W a) => h.put HGD.out hmem)
                simp only at hidx g0 g1 g2 g3 h25
                generalize gs[m] = g at g0 g1 g2 g3 h25 HPUT
                generalize mulP a g = r at h25 HPUT
                clear hR hmem hwg hfg hoa hrw hbw
                have hmI : (m : Int) < 64 := by omega
                go_wp2_with fail
                · go_region_with (first | (go_at_call 25; refine (h25 _).mono ?_; rintro e w' ⟨rfl, hb⟩; have HS2 := Lib.hid (HST.out.step (((Below.refl _ wr).drew).trans hb)); obtain ⟨y0, y1, y2, y3⟩ := HS2.out.rows.at_ 0 (by simp); have hfy := HS2.out.rows.free; simp only [List.getElem_cons_zero, Nat.zero_mul, Nat.zero_add] at y0 y1 y2 y3))
                  all_goals
                    have HS3 := Lib.hid (HPUT.out _ HS2.out)
                    go_wp2_with fail
                    go_roundw
                    case rel => exact ⟨m + 1, r, by omega, by go_num, rfl, HS3.out⟩
                    case measure => simp [intOf]; omega
                · go_roundw
                  case rel => exact ⟨m + 1, a, by omega, by go_num, rfl, HST.out⟩
                  case measure => simp [intOf]; omega
              · obtain rfl : m = gs.length := by omega
                have hE : err2 ⟨n, ga, gc, gs, xa, xc, xs, za, zc, zs⟩ a = 0 := err2_of HGD.out hoa HST.out.an
                have hsa : synd gs a = 0 := Quiet.synd HST.out.qg
                have hla : logic xs zs a = ⟨xs.length, 0, 0, 0⟩ := by
                  have h1 := Quiet.logic HST.out.qx HST.out.qz
                  simp only at h1
                  unfold logic at h1 ⊢
                  simp only at h1
                  rw [h1.1, h1.2]
                have ha12 := fun W (h : Below w.heap.size w W) => syndrome_calls ⟨n, ga, gc, gs, xa, xc, xs, za, zc, zs⟩ a W (HC.out.below h) hoa.wf
                have ha14 := fun W (h : Below w.heap.size w W) => logicalof_calls ⟨n, ga, gc, gs, xa, xc, xs, za, zc, zs⟩ a W (HC.out.below h) hoa.wf
                have hv1 : synV ⟨n, ga, gc, gs, xa, xc, xs, za, zc, zs⟩ a = 0 := (synV_of hE).trans hsa
                have hv2 : logV ⟨n, ga, gc, gs, xa, xc, xs, za, zc, zs⟩ a = ⟨xs.length, 0, 0, 0⟩ := (logV_of hE hsa).trans hla
                have hv3 : logE ⟨n, ga, gc, gs, xa, xc, xs, za, zc, zs⟩ a = 0 := logE_of hE hsa
                rw [hv1, hE] at ha12
                rw [hv2, hv3] at ha14
                clear hE hsa hla hv1 hv2 hv3 hoa hrw hbw
                simp only at ha12 ha14
                go_wp2_with fail
                go_at_call 12
                refine (ha12 _ HST.out.below).mono ?_
                rintro e w10 ⟨rfl, hb⟩
                replace HST := Lib.hid (HST.out.step hb)
                clear hb c0 c1 c2 c3 a0 a1 a2 a3 hfa
                obtain ⟨hbw, ⟨-, c0, c1, c2, c3⟩, hrw, -, -, -, -, -, -, -⟩ := HST.out
                obtain ⟨a0, a1, a2, a3⟩ := hrw.at_ 0 (by simp)
                simp only [List.getElem_cons_zero, Nat.zero_mul, Nat.zero_add] at a0 a1 a2 a3
                simp only at c0 c1 c2 c3
                clear hrw hbw
                go_wp2_with fail
                go_at_call 14
                refine (ha14 _ HST.out.below).mono ?_
                rintro e w11 ⟨rfl, hb⟩
                replace HST := Lib.hid (HST.out.step hb)
                clear hb c0 c1 c2 c3 a0 a1 a2 a3
                go_wp2_with fail
                go_ret
                exact ⟨rfl, HST.out.below.alloc HST.out.below.size _⟩
          · have hSI : (((synd gs p : Nat) : Int) == 0) = true := by rw [beq_iff_eq]; omega
            have hTI : (((synd gs q : Nat) : Int) == 0) = false := by rw [beq_eq_false_iff_ne]; omega
            have hlp : logE ⟨n, ga, gc, gs, xa, xc, xs, za, zc, zs⟩ p = 0 := logE_of A S
            have hlq : logE ⟨n, ga, gc, gs, xa, xc, xs, za, zc, zs⟩ q = 2 := by unfold logE; rw [if_pos B, if_neg T]
            rw [hlp] at hp14
            rw [hlq] at hq14
            clear hlp hlq HLM HUX hm14
            clear hsp hsq hsm hsy hem A B hop hoq hnp hnq hnpq HP HQ
            generalize logV ⟨n, ga, gc, gs, xa, xc, xs, za, zc, zs⟩ p = lp at *
            generalize logV ⟨n, ga, gc, gs, xa, xc, xs, za, zc, zs⟩ q = lq at *
            generalize synd gs q = t at *
            generalize synd gs p = s at *
            clear S
            generalize mulP p q = m at *
            clear hom
            go_wp2_with fail
            go_at_call 12
            refine (hp12 _ HN.out.below).mono ?_
            rintro e w2 ⟨rfl, hb⟩
            replace HN := Lib.hid (HN.out.step hb)
            clear hb l3 c0 c1 c2 c3 p0 p1 p2 p3 q0 q1 q2 q3 l4 l5
            obtain ⟨-, ⟨l3, c0, c1, c2, c3⟩, ⟨p0, p1, p2, p3⟩, ⟨q0, q1, q2, q3⟩, l4, l5⟩ := HN.out
            simp only at c0 c1 c2 c3
            go_wp2_with fail
            go_at_call 12
            refine (hq12 _ HN.out.below).mono ?_
            rintro e w3 ⟨rfl, hb⟩
            replace HN := Lib.hid (HN.out.step hb)
            clear hb l3 c0 c1 c2 c3 p0 p1 p2 p3 q0 q1 q2 q3 l4 l5
            obtain ⟨-, ⟨l3, c0, c1, c2, c3⟩, ⟨p0, p1, p2, p3⟩, ⟨q0, q1, q2, q3⟩, l4, l5⟩ := HN.out
            simp only at c0 c1 c2 c3
            go_wp2_with fail
            go_at_call 25
            refine (h25 _).mono ?_
            rintro e w4 ⟨rfl, hb⟩
            replace HN := Lib.hid ((HN.out.step hb).step (below1 w4 (Obj.cells #[.int .i64 m.n, .int .u64 m.x, .int .u64 m.z, .int .i64 m.ph] 27)))
            have HM : Hid (Cells4 (w4.alloc (Obj.cells #[.int .i64 m.n, .int .u64 m.x, .int .u64 m.z, .int .i64 m.ph] 27)) w4.heap.size 0 m) := Lib.hid (Cells4.of (newAt _ _ rfl))
            have hMl : w4.heap.size < (w4.alloc (Obj.cells #[.int .i64 m.n, .int .u64 m.x, .int .u64 m.z, .int .i64 m.ph] 27)).heap.size := by simp
            clear hb l3 c0 c1 c2 c3 p0 p1 p2 p3 q0 q1 q2 q3 l4 l5
            obtain ⟨-, ⟨l3, c0, c1, c2, c3⟩, ⟨p0, p1, p2, p3⟩, ⟨q0, q1, q2, q3⟩, l4, l5⟩ := HN.out
            simp only at c0 c1 c2 c3
            obtain ⟨m0, m1, m2, m3⟩ := HM.out
            go_wp2_with fail
            go_at_call 12
            refine (hm12 _ HN.out.below).mono ?_
            rintro e w5 ⟨rfl, hb⟩
            have HM2 := Lib.hid (HM.out.below hMl hb)
            have hMl2 := Nat.lt_of_lt_of_le hMl hb.size
            clear HM hMl m0 m1 m2 m3
            have HM := HM2
            have hMl := hMl2
            clear HM2 hMl2
            obtain ⟨m0, m1, m2, m3⟩ := HM.out
            replace HN := Lib.hid (HN.out.step hb)
            clear hb l3 c0 c1 c2 c3 p0 p1 p2 p3 q0 q1 q2 q3 l4 l5
            obtain ⟨-, ⟨l3, c0, c1, c2, c3⟩, ⟨p0, p1, p2, p3⟩, ⟨q0, q1, q2, q3⟩, l4, l5⟩ := HN.out
            simp only at c0 c1 c2 c3
            go_wp2_with fail
            go_at_call 14
            refine (hp14 _ HN.out.below).mono ?_
            rintro e w6 ⟨rfl, hb⟩
            replace hb := hb.trans ((below1 w6 (Obj.cells #[.int .i64 lp.n, .int .u64 lp.x, .int .u64 lp.z, .int .i64 lp.ph] 27)).mono hb.size)
            have HM2 := Lib.hid (HM.out.below hMl hb)
            have hMl2 := Nat.lt_of_lt_of_le hMl hb.size
            clear HM hMl m0 m1 m2 m3
            have HM := HM2
            have hMl := hMl2
            clear HM2 hMl2
            obtain ⟨m0, m1, m2, m3⟩ := HM.out
            replace HN := Lib.hid (HN.out.step hb)
            clear hb l3 c0 c1 c2 c3 p0 p1 p2 p3 q0 q1 q2 q3 l4 l5
            obtain ⟨-, ⟨l3, c0, c1, c2, c3⟩, ⟨p0, p1, p2, p3⟩, ⟨q0, q1, q2, q3⟩, l4, l5⟩ := HN.out
            simp only at c0 c1 c2 c3
            go_wp2_with fail
            go_at_call 14
            refine (hq14 _ HN.out.below).mono ?_
            rintro e w7 ⟨rfl, hb⟩
            replace hb := hb.trans ((below1 w7 (Obj.cells #[.int .i64 lq.n, .int .u64 lq.x, .int .u64 lq.z, .int .i64 lq.ph] 27)).mono hb.size)
            have HM2 := Lib.hid (HM.out.below hMl hb)
            have hMl2 := Nat.lt_of_lt_of_le hMl hb.size
            clear HM hMl m0 m1 m2 m3
            have HM := HM2
            have hMl := hMl2
            clear HM2 hMl2
            obtain ⟨m0, m1, m2, m3⟩ := HM.out
            replace HN := Lib.hid (HN.out.step hb)
            clear hb l3 c0 c1 c2 c3 p0 p1 p2 p3 q0 q1 q2 q3 l4 l5
            obtain ⟨-, ⟨l3, c0, c1, c2, c3⟩, ⟨p0, p1, p2, p3⟩, ⟨q0, q1, q2, q3⟩, l4, l5⟩ := HN.out
            simp only at c0 c1 c2 c3
            go_wp2_with fail
            go_at_call 26
            refine (h26 _).mono ?_
            rintro e w9 ⟨rfl, hb⟩
            clear HM hMl m0 m1 m2 m3
            have HN9 := HN.out.step hb
            have HST := Lib.hid (AllSt.start HN9.below HN9.c HGD.out)
            simp only at HST
            clear HN HN9 hb l3 c0 c1 c2 c3 p0 p1 p2 p3 q0 q1 q2 q3 l4 l5
            obtain ⟨-, ⟨-, c0, c1, c2, c3⟩, -, -, -, -, -, -, -, -⟩ := HST.out
            simp only at c0 c1 c2 c3
            clear hp12 hq12 hm12 hp14 hq14 h25 h26 hxo
            go_wp2_with fail
            generalize w9.heap.size = P at HST ⊢
            go_loopw [22, 23] (fun s22 s23 W => ∃ (m : Nat) (a : Pau), m ≤ gs.length ∧ s23 = .int .i64 m ∧ s22 = .int .i64 0 ∧ AllSt w ⟨n, ga, gc, gs, xa, xc, xs, za, zc, zs⟩ b3 P W a) (fun _ s23 _ => gs.length - (intOf s23).toNat)
            case atStart => exact ⟨0, _, Nat.zero_le _, rfl, rfl, HST.out⟩
            case round =>
              clear HST c0 c1 c2 c3
              obtain ⟨m, a, hm, rfl, rfl, hst⟩ := hrel
              have HST := Lib.hid hst
              obtain ⟨hbw, ⟨-, c0, c1, c2, c3⟩, hrw, -, -, hoa, -, -, -, -⟩ := hst
              obtain ⟨a0, a1, a2, a3⟩ := hrw.at_ 0 (by simp)
              have hfa := hrw.free
              simp only [List.getElem_cons_zero, Nat.zero_mul, Nat.zero_add] at a0 a1 a2 a3
              simp only at c0 c1 c2 c3
              by_cases hlt : m < gs.length
              · have hR := HC.out.g.below hbw
                obtain ⟨bg, og, hbg, hidx, g0, g1, g2, g3⟩ := hR.at m hlt
                have hmem := List.getElem_mem hlt
                have hwg := hR.wf _ hmem
                have hfg := HGD.out.fg _ hmem
                have h25 := fun W => mul_ok a gs[m] hoa.wf hwg hoa hfg.1 (HST.out.an.trans hfg.2.1.symm) W
                have HPUT := Lib.hid (fun W (h : AllSt w ⟨n, ga, gc, gs, xa, xc, xs, za, zc, zs⟩ b3 P W a) => h.put HGD.out hmem)
                simp only at hidx g0 g1 g2 g3 h25
                generalize gs[m] = g at g0 g1 g2 g3 h25 HPUT
                generalize mulP a g = r at h25 HPUT
                clear hR hmem hwg hfg hoa hrw hbw
                have hmI : (m : Int) < 64 := by omega
                go_wp2_with fail
                · go_region_with (first | (go_at_call 25; refine (h25 _).mono ?_; rintro e w' ⟨rfl, hb⟩; have HS2 := Lib.hid (HST.out.step (((Below.refl _ wr).drew).trans hb)); obtain ⟨y0, y1, y2, y3⟩ := HS2.out.rows.at_ 0 (by simp); have hfy := HS2.out.rows.free; simp only [List.getElem_cons_zero, Nat.zero_mul, Nat.zero_add] at y0 y1 y2 y3))
                  all_goals
                    have HS3 := Lib.hid (HPUT.out _ HS2.out)
                    go_wp2_with fail
                    go_roundw
                    case rel => exact ⟨m + 1, r, by omega, by go_num, rfl, HS3.out⟩
                    case measure => simp [intOf]; omega
                · go_roundw
                  case rel => exact ⟨m + 1, a, by omega, by go_num, rfl, HST.out⟩
                  case measure => simp [intOf]; omega
              · obtain rfl : m = gs.length := by omega
                have hE : err2 ⟨n, ga, gc, gs, xa, xc, xs, za, zc, zs⟩ a = 0 := err2_of HGD.out hoa HST.out.an
                have hsa : synd gs a = 0 := Quiet.synd HST.out.qg
                have hla : logic xs zs a = ⟨xs.length, 0, 0, 0⟩ := by
                  have h1 := Quiet.logic HST.out.qx HST.out.qz
                  simp only at h1
                  unfold logic at h1 ⊢
                  simp only at h1
                  rw [h1.1, h1.2]
                have ha12 := fun W (h : Below w.heap.size w W) => syndrome_calls ⟨n, ga, gc, gs, xa, xc, xs, za, zc, zs⟩ a W (HC.out.below h) hoa.wf
                have ha14 := fun W (h : Below w.heap.size w W) => logicalof_calls ⟨n, ga, gc, gs, xa, xc, xs, za, zc, zs⟩ a W (HC.out.below h) hoa.wf
                have hv1 : synV ⟨n, ga, gc, gs, xa, xc, xs, za, zc, zs⟩ a = 0 := (synV_of hE).trans hsa
                have hv2 : logV ⟨n, ga, gc, gs, xa, xc, xs, za, zc, zs⟩ a = ⟨xs.length, 0, 0, 0⟩ := (logV_of hE hsa).trans hla
                have hv3 : logE ⟨n, ga, gc, gs, xa, xc, xs, za, zc, zs⟩ a = 0 := logE_of hE hsa
                rw [hv1, hE] at ha12
                rw [hv2, hv3] at ha14
                clear hE hsa hla hv1 hv2 hv3 hoa hrw hbw
                simp only at ha12 ha14
                go_wp2_with fail
                go_at_call 12
                refine (ha12 _ HST.out.below).mono ?_
                rintro e w10 ⟨rfl, hb⟩
                replace HST := Lib.hid (HST.out.step hb)
                clear hb c0 c1 c2 c3 a0 a1 a2 a3 hfa
                obtain ⟨hbw, ⟨-, c0, c1, c2, c3⟩, hrw, -, -, -, -, -, -, -⟩ := HST.out
                obtain ⟨a0, a1, a2, a3⟩ := hrw.at_ 0 (by simp)
                simp only [List.getElem_cons_zero, Nat.zero_mul, Nat.zero_add] at a0 a1 a2 a3
                simp only at c0 c1 c2 c3
                clear hrw hbw
                go_wp2_with fail
                go_at_call 14
                refine (ha14 _ HST.out.below).mono ?_
                rintro e w11 ⟨rfl, hb⟩
                replace HST := Lib.hid (HST.out.step hb)
                clear hb c0 c1 c2 c3 a0 a1 a2 a3
                go_wp2_with fail
                go_ret
                exact ⟨rfl, HST.out.below.alloc HST.out.below.size _⟩
        · have hSI : (((synd gs p : Nat) : Int) == 0) = false := by rw [beq_eq_false_iff_ne]; omega
          have hTE : ((logE ⟨n, ga, gc, gs, xa, xc, xs, za, zc, zs⟩ q == 0) : Bool) = (((synd gs q : Nat) : Int) == 0) := by
            unfold logE
            rw [if_pos B]
            by_cases T : synd gs q = 0
            · rw [if_pos T, T]; rfl
            · rw [if_neg T, Bool.eq_iff_iff]
              simp only [beq_iff_eq]
              omega
          have hlp : logE ⟨n, ga, gc, gs, xa, xc, xs, za, zc, zs⟩ p = 2 := by unfold logE; rw [if_pos A, if_neg S]
          rw [hlp] at hp14
          generalize logE ⟨n, ga, gc, gs, xa, xc, xs, za, zc, zs⟩ q = lqe at hq14 hTE
          clear hlp HLM HUX hm14
          clear hsp hsq hsm hsy hem A B hop hoq hnp hnq hnpq HP HQ
          generalize logV ⟨n, ga, gc, gs, xa, xc, xs, za, zc, zs⟩ p = lp at *
          generalize logV ⟨n, ga, gc, gs, xa, xc, xs, za, zc, zs⟩ q = lq at *
          generalize synd gs q = t at *
          generalize synd gs p = s at *
          clear S
          generalize mulP p q = m at *
          clear hom
          go_wp2_with fail
          go_at_call 12
          refine (hp12 _ HN.out.below).mono ?_
          rintro e w2 ⟨rfl, hb⟩
          replace HN := Lib.hid (HN.out.step hb)
          clear hb l3 c0 c1 c2 c3 p0 p1 p2 p3 q0 q1 q2 q3 l4 l5
          obtain ⟨-, ⟨l3, c0, c1, c2, c3⟩, ⟨p0, p1, p2, p3⟩, ⟨q0, q1, q2, q3⟩, l4, l5⟩ := HN.out
          simp only at c0 c1 c2 c3
          go_wp2_with fail
          go_at_call 12
          refine (hq12 _ HN.out.below).mono ?_
          rintro e w3 ⟨rfl, hb⟩
          replace HN := Lib.hid (HN.out.step hb)
          clear hb l3 c0 c1 c2 c3 p0 p1 p2 p3 q0 q1 q2 q3 l4 l5
          obtain ⟨-, ⟨l3, c0, c1, c2, c3⟩, ⟨p0, p1, p2, p3⟩, ⟨q0, q1, q2, q3⟩, l4, l5⟩ := HN.out
          simp only at c0 c1 c2 c3
          go_wp2_with fail
          go_at_call 25
          refine (h25 _).mono ?_
          rintro e w4 ⟨rfl, hb⟩
          replace HN := Lib.hid ((HN.out.step hb).step (below1 w4 (Obj.cells #[.int .i64 m.n, .int .u64 m.x, .int .u64 m.z, .int .i64 m.ph] 27)))
          have HM : Hid (Cells4 (w4.alloc (Obj.cells #[.int .i64 m.n, .int .u64 m.x, .int .u64 m.z, .int .i64 m.ph] 27)) w4.heap.size 0 m) := Lib.hid (Cells4.of (newAt _ _ rfl))
          have hMl : w4.heap.size < (w4.alloc (Obj.cells #[.int .i64 m.n, .int .u64 m.x, .int .u64 m.z, .int .i64 m.ph] 27)).heap.size := by simp
          clear hb l3 c0 c1 c2 c3 p0 p1 p2 p3 q0 q1 q2 q3 l4 l5
          obtain ⟨-, ⟨l3, c0, c1, c2, c3⟩, ⟨p0, p1, p2, p3⟩, ⟨q0, q1, q2, q3⟩, l4, l5⟩ := HN.out
          simp only at c0 c1 c2 c3
          obtain ⟨m0, m1, m2, m3⟩ := HM.out
          go_wp2_with fail
          go_at_call 12
          refine (hm12 _ HN.out.below).mono ?_
          rintro e w5 ⟨rfl, hb⟩
          have HM2 := Lib.hid (HM.out.below hMl hb)
          have hMl2 := Nat.lt_of_lt_of_le hMl hb.size
          clear HM hMl m0 m1 m2 m3
          have HM := HM2
          have hMl := hMl2
          clear HM2 hMl2
          obtain ⟨m0, m1, m2, m3⟩ := HM.out
          replace HN := Lib.hid (HN.out.step hb)
          clear hb l3 c0 c1 c2 c3 p0 p1 p2 p3 q0 q1 q2 q3 l4 l5
          obtain ⟨-, ⟨l3, c0, c1, c2, c3⟩, ⟨p0, p1, p2, p3⟩, ⟨q0, q1, q2, q3⟩, l4, l5⟩ := HN.out
          simp only at c0 c1 c2 c3
          go_wp2_with fail
          go_at_call 14
          refine (hp14 _ HN.out.below).mono ?_
          rintro e w6 ⟨rfl, hb⟩
          replace hb := hb.trans ((below1 w6 (Obj.cells #[.int .i64 lp.n, .int .u64 lp.x, .int .u64 lp.z, .int .i64 lp.ph] 27)).mono hb.size)
          have HM2 := Lib.hid (HM.out.below hMl hb)
          have hMl2 := Nat.lt_of_lt_of_le hMl hb.size
          clear HM hMl m0 m1 m2 m3
          have HM := HM2
          have hMl := hMl2
          clear HM2 hMl2
          obtain ⟨m0, m1, m2, m3⟩ := HM.out
          replace HN := Lib.hid (HN.out.step hb)
          clear hb l3 c0 c1 c2 c3 p0 p1 p2 p3 q0 q1 q2 q3 l4 l5
          obtain ⟨-, ⟨l3, c0, c1, c2, c3⟩, ⟨p0, p1, p2, p3⟩, ⟨q0, q1, q2, q3⟩, l4, l5⟩ := HN.out
          simp only at c0 c1 c2 c3
          go_wp2_with fail
          go_at_call 14
          refine (hq14 _ HN.out.below).mono ?_
          rintro e w7 ⟨rfl, hb⟩
          replace hb := hb.trans ((below1 w7 (Obj.cells #[.int .i64 lq.n, .int .u64 lq.x, .int .u64 lq.z, .int .i64 lq.ph] 27)).mono hb.size)
          have HM2 := Lib.hid (HM.out.below hMl hb)
          have hMl2 := Nat.lt_of_lt_of_le hMl hb.size
          clear HM hMl m0 m1 m2 m3
          have HM := HM2
          have hMl := hMl2
          clear HM2 hMl2
          obtain ⟨m0, m1, m2, m3⟩ := HM.out
          replace HN := Lib.hid (HN.out.step hb)
          clear hb l3 c0 c1 c2 c3 p0 p1 p2 p3 q0 q1 q2 q3 l4 l5
          obtain ⟨-, ⟨l3, c0, c1, c2, c3⟩, ⟨p0, p1, p2, p3⟩, ⟨q0, q1, q2, q3⟩, l4, l5⟩ := HN.out
          simp only at c0 c1 c2 c3
          go_wp2_with fail
          go_at_call 26
          refine (h26 _).mono ?_
          rintro e w9 ⟨rfl, hb⟩
          clear HM hMl m0 m1 m2 m3
          have HN9 := HN.out.step hb
          have HST := Lib.hid (AllSt.start HN9.below HN9.c HGD.out)
          simp only at HST
          clear HN HN9 hb l3 c0 c1 c2 c3 p0 p1 p2 p3 q0 q1 q2 q3 l4 l5
          obtain ⟨-, ⟨-, c0, c1, c2, c3⟩, -, -, -, -, -, -, -, -⟩ := HST.out
          simp only at c0 c1 c2 c3
          clear hp12 hq12 hm12 hp14 hq14 h25 h26 hxo
          go_wp2_with fail
          generalize w9.heap.size = P at HST ⊢
          go_loopw [22, 23] (fun s22 s23 W => ∃ (m : Nat) (a : Pau), m ≤ gs.length ∧ s23 = .int .i64 m ∧ s22 = .int .i64 0 ∧ AllSt w ⟨n, ga, gc, gs, xa, xc, xs, za, zc, zs⟩ b3 P W a) (fun _ s23 _ => gs.length - (intOf s23).toNat)
          case atStart => exact ⟨0, _, Nat.zero_le _, rfl, rfl, HST.out⟩
          case round =>
            clear HST c0 c1 c2 c3
            obtain ⟨m, a, hm, rfl, rfl, hst⟩ := hrel
            have HST := Lib.hid hst
            obtain ⟨hbw, ⟨-, c0, c1, c2, c3⟩, hrw, -, -, hoa, -, -, -, -⟩ := hst
            obtain ⟨a0, a1, a2, a3⟩ := hrw.at_ 0 (by simp)
            have hfa := hrw.free
            simp only [List.getElem_cons_zero, Nat.zero_mul, Nat.zero_add] at a0 a1 a2 a3
            simp only at c0 c1 c2 c3
            by_cases hlt : m < gs.length
            · have hR := HC.out.g.below hbw
              obtain ⟨bg, og, hbg, hidx, g0, g1, g2, g3⟩ := hR.at m hlt
              have hmem := List.getElem_mem hlt
              have hwg := hR.wf _ hmem
              have hfg := HGD.out.fg _ hmem
              have h25 := fun W => mul_ok a gs[m] hoa.wf hwg hoa hfg.1 (HST.out.an.trans hfg.2.1.symm) W
              have HPUT := Lib.hid (fun W (h : AllSt w ⟨n, ga, gc, gs, xa, xc, xs, za, zc, zs⟩ b3 P W a) => h.put HGD.out hmem)
              simp only at hidx g0 g1 g2 g3 h25
              generalize gs[m] = g at g0 g1 g2 g3 h25 HPUT
              generalize mulP a g = r at h25 HPUT
              clear hR hmem hwg hfg hoa hrw hbw
              have hmI : (m : Int) < 64 := by omega
              go_wp2_with fail
              · go_region_with (first | (go_at_call 25; refine (h25 _).mono ?_; rintro e w' ⟨rfl, hb⟩; have HS2 := Lib.hid (HST.out.step (((Below.refl _ wr).drew).trans hb)); obtain ⟨y0, y1, y2, y3⟩ := HS2.out.rows.at_ 0 (by simp); have hfy := HS2.out.rows.free; simp only [List.getElem_cons_zero, Nat.zero_mul, Nat.zero_add] at y0 y1 y2 y3))
                all_goals
                  have HS3 := Lib.hid (HPUT.out _ HS2.out)
                  go_wp2_with fail
                  go_roundw
                  case rel => exact ⟨m + 1, r, by omega, by go_num, rfl, HS3.out⟩
                  case measure => simp [intOf]; omega
              · go_roundw
                case rel => exact ⟨m + 1, a, by omega, by go_num, rfl, HST.out⟩
                case measure => simp [intOf]; omega
            · obtain rfl : m = gs.length := by omega
              have hE : err2 ⟨n, ga, gc, gs, xa, xc, xs, za, zc, zs⟩ a = 0 := err2_of HGD.out hoa HST.out.an
              have hsa : synd gs a = 0 := Quiet.synd HST.out.qg
              have hla : logic xs zs a = ⟨xs.length, 0, 0, 0⟩ := by
                have h1 := Quiet.logic HST.out.qx HST.out.qz
                simp only at h1
                unfold logic at h1 ⊢
                simp only at h1
                rw [h1.1, h1.2]
              have ha12 := fun W (h : Below w.heap.size w W) => syndrome_calls ⟨n, ga, gc, gs, xa, xc, xs, za, zc, zs⟩ a W (HC.out.below h) hoa.wf
              have ha14 := fun W (h : Below w.heap.size w W) => logicalof_calls ⟨n, ga, gc, gs, xa, xc, xs, za, zc, zs⟩ a W (HC.out.below h) hoa.wf
              have hv1 : synV ⟨n, ga, gc, gs, xa, xc, xs, za, zc, zs⟩ a = 0 := (synV_of hE).trans hsa
              have hv2 : logV ⟨n, ga, gc, gs, xa, xc, xs, za, zc, zs⟩ a = ⟨xs.length, 0, 0, 0⟩ := (logV_of hE hsa).trans hla
              have hv3 : logE ⟨n, ga, gc, gs, xa, xc, xs, za, zc, zs⟩ a = 0 := logE_of hE hsa
              rw [hv1, hE] at ha12
              rw [hv2, hv3] at ha14
              clear hE hsa hla hv1 hv2 hv3 hoa hrw hbw
              simp only at ha12 ha14
              go_wp2_with fail
              go_at_call 12
              refine (ha12 _ HST.out.below).mono ?_
              rintro e w10 ⟨rfl, hb⟩
              replace HST := Lib.hid (HST.out.step hb)
              clear hb c0 c1 c2 c3 a0 a1 a2 a3 hfa
              obtain ⟨hbw, ⟨-, c0, c1, c2, c3⟩, hrw, -, -, -, -, -, -, -⟩ := HST.out
              obtain ⟨a0, a1, a2, a3⟩ := hrw.at_ 0 (by simp)
              simp only [List.getElem_cons_zero, Nat.zero_mul, Nat.zero_add] at a0 a1 a2 a3
              simp only at c0 c1 c2 c3
              clear hrw hbw
              go_wp2_with fail
              go_at_call 14
              refine (ha14 _ HST.out.below).mono ?_
              rintro e w11 ⟨rfl, hb⟩
              replace HST := Lib.hid (HST.out.step hb)
              clear hb c0 c1 c2 c3 a0 a1 a2 a3
              go_wp2_with fail
              go_ret
              exact ⟨rfl, HST.out.below.alloc HST.out.below.size _⟩
      · rw [A] at hp12
        generalize err2 ⟨n, ga, gc, gs, xa, xc, xs, za, zc, zs⟩ q = f at *
        generalize synV ⟨n, ga, gc, gs, xa, xc, xs, za, zc, zs⟩ p = s at *
        generalize synV ⟨n, ga, gc, gs, xa, xc, xs, za, zc, zs⟩ q = t at *
        have hne : (f != 0) = true := by simpa using B
        clear A B
        go_wp2_with fail
        go_at_call 12
        refine (hp12 _ HN.out.below).mono ?_
        rintro e w2 ⟨rfl, hb⟩
        replace HN := Lib.hid (HN.out.step hb)
        clear hb l3 c0 c1 c2 c3 p0 p1 p2 p3 q0 q1 q2 q3 l4 l5
        obtain ⟨-, ⟨l3, c0, c1, c2, c3⟩, ⟨p0, p1, p2, p3⟩, ⟨q0, q1, q2, q3⟩, l4, l5⟩ := HN.out
        simp only at c0 c1 c2 c3
        go_wp2_with fail
        go_at_call 12
        refine (hq12 _ HN.out.below).mono ?_
        rintro e w3 ⟨rfl, hb⟩
        replace HN := Lib.hid (HN.out.step hb)
        clear hb l3 c0 c1 c2 c3 p0 p1 p2 p3 q0 q1 q2 q3 l4 l5
        obtain ⟨-, ⟨l3, c0, c1, c2, c3⟩, ⟨p0, p1, p2, p3⟩, ⟨q0, q1, q2, q3⟩, l4, l5⟩ := HN.out
        simp only at c0 c1 c2 c3
        go_wp2_with fail
        go_at_call 25
        refine (h25 _).mono ?_
        rintro e w4 ⟨⟨r, g, rfl⟩, hb⟩
        replace HN := Lib.hid ((HN.out.step hb).step (below1 w4 (Obj.cells #[.int .i64 r.n, .int .u64 r.x, .int .u64 r.z, .int .i64 r.ph] 27)))
        clear hb l3 c0 c1 c2 c3 p0 p1 p2 p3 q0 q1 q2 q3 l4 l5
        go_wp2_with fail
        go_ret
        exact ⟨rfl, HN.out.below⟩
    · generalize err2 ⟨n, ga, gc, gs, xa, xc, xs, za, zc, zs⟩ p = f at *
      generalize err2 ⟨n, ga, gc, gs, xa, xc, xs, za, zc, zs⟩ q = f' at *
      generalize synV ⟨n, ga, gc, gs, xa, xc, xs, za, zc, zs⟩ p = s at *
      generalize synV ⟨n, ga, gc, gs, xa, xc, xs, za, zc, zs⟩ q = t at *
      have hne : (f != 0) = true := by simpa using A
      clear A
      go_wp2_with fail
      go_at_call 12
      refine (hp12 _ HN.out.below).mono ?_
      rintro e w2 ⟨rfl, hb⟩
      replace HN := Lib.hid (HN.out.step hb)
      clear hb l3 c0 c1 c2 c3 p0 p1 p2 p3 q0 q1 q2 q3 l4 l5
      obtain ⟨-, ⟨l3, c0, c1, c2, c3⟩, ⟨p0, p1, p2, p3⟩, ⟨q0, q1, q2, q3⟩, l4, l5⟩ := HN.out
      simp only at c0 c1 c2 c3
      go_wp2_with fail
      go_at_call 12
      refine (hq12 _ HN.out.below).mono ?_
      rintro e w3 ⟨rfl, hb⟩
      replace HN := Lib.hid (HN.out.step hb)
      clear hb l3 c0 c1 c2 c3 p0 p1 p2 p3 q0 q1 q2 q3 l4 l5
      obtain ⟨-, ⟨l3, c0, c1, c2, c3⟩, ⟨p0, p1, p2, p3⟩, ⟨q0, q1, q2, q3⟩, l4, l5⟩ := HN.out
      simp only at c0 c1 c2 c3
      go_wp2_with fail
      go_at_call 25
      refine (h25 _).mono ?_
      rintro e w4 ⟨⟨r, g, rfl⟩, hb⟩
      replace HN := Lib.hid ((HN.out.step hb).step (below1 w4 (Obj.cells #[.int .i64 r.n, .int .u64 r.x, .int .u64 r.z, .int .i64 r.ph] 27)))
      clear hb l3 c0 c1 c2 c3 p0 p1 p2 p3 q0 q1 q2 q3 l4 l5
      go_wp2_with fail
      go_ret
      exact ⟨rfl, HN.out.below⟩
end Go.Proofs.Ytfnmembjgclhoaa.CD
