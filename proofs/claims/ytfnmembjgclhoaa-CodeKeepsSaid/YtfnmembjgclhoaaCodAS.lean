/- CodeNamed: walked. -/
import Derived.Test.YtfnmembjgclhoaaCodAR
import Derived.Test.YtfnmembjgclhoaaCodAG
namespace Go.Proofs.Ytfnmembjgclhoaa.CD
open Go Go.RowKit
set_option linter.unusedVariables false
set_option linter.unusedSimpArgs false

/-- What the walk knows once all three answers lie in boxes. -/
structure N7 (w : World) (c0 ca cb : Cod) (B3 B5 B7 : Nat) (W : World) : Prop where
  below : Below w.heap.size w W
  b3 : BoxAt W B3 c0
  b5 : BoxAt W B5 ca
  b7 : BoxAt W B7 cb
  r3 : CodAt W c0
  r5 : CodAt W ca
  r7 : CodAt W cb
theorem N7.step {w W W' : World} {c0 ca cb : Cod} {B3 B5 B7 : Nat} (h : N7 w c0 ca cb B3 B5 B7 W) (hb : Below W.heap.size W W') : N7 w c0 ca cb B3 B5 B7 W' :=
  ⟨h.below.trans (hb.mono h.below.size), h.b3.step hb, h.b5.step hb, h.b7.step hb, h.r3.below hb, h.r5.below hb, h.r7.below hb⟩

structure N3 (w : World) (c0 cb : Cod) (B3 B7 : Nat) (W : World) : Prop where
  below : Below w.heap.size w W
  b3 : BoxAt W B3 c0
  b7 : BoxAt W B7 cb
  r3 : CodAt W c0
  r7 : CodAt W cb
theorem N3.step {w W W' : World} {c0 cb : Cod} {B3 B7 : Nat} (h : N3 w c0 cb B3 B7 W) (hb : Below W.heap.size W W') : N3 w c0 cb B3 B7 W' :=
  ⟨h.below.trans (hb.mono h.below.size), h.b3.step hb, h.b7.step hb, h.r3.below hb, h.r7.below hb⟩

theorem idx53 (L k : Nat) (hk : k < 3) (W : World) : (Instr.indexAt 53 (Value.slice (some ⟨L, 0, none⟩) 3 3) (.int .i64 k)).run Try.prog W = .ok (.pointer (some ⟨L, k, none⟩)) W := by
  have hs : ∀ W, (Go.sizeOf (Try.prog.elem 53)).run Try.prog W = .ok 1 W := fun _ => by kernel_rfl
  rw [run_indexAt_slice _ 53 _ _ _ _ _ (by kernel_rfl), if_pos ⟨by omega, by omega⟩, hs]
  simp [Result.andThen, Addr.add]
  omega
theorem idx22 (b l c j : Nat) (hj : j < l) (W : World) : (Instr.indexAt 22 (Value.slice (some ⟨b, 0, none⟩) l c) (.int .i64 j)).run Try.prog W = .ok (.pointer (some ⟨b, j * 4, none⟩)) W := by
  have hs : ∀ W, (Go.sizeOf (Try.prog.elem 22)).run Try.prog W = .ok 4 W := fun _ => by kernel_rfl
  rw [run_indexAt_slice _ 22 _ _ _ _ _ (by kernel_rfl), if_pos ⟨by omega, by exact_mod_cast hj⟩, hs]
  simp [Result.andThen, Addr.add]
  omega
def pick3 (a b c : Nat) (q : Nat) : Nat := if q = 0 then a else if q = 1 then b else c
theorem pick3_inj {a b c : Nat} (h1 : a < b) (h2 : b < c) : ∀ q, q < 3 → ∀ r, r < 3 → pick3 a b c q = pick3 a b c r → q = r := by
  intro q hq r hr h
  have : q = 0 ∨ q = 1 ∨ q = 2 := by omega
  have : r = 0 ∨ r = 1 ∨ r = 2 := by omega
  unfold pick3 at h
  split at h <;> split at h <;> (try split at h) <;> (try split at h) <;> omega
theorem pick3_lt {a b c N : Nat} (h1 : a < b) (h2 : b < c) (h3 : c < N) (q : Nat) : pick3 a b c q < N := by
  unfold pick3; split <;> (try split) <;> omega
theorem pick3_ge {a b c N : Nat} (h1 : a < b) (h2 : b < c) (h3 : N ≤ a) (q : Nat) : N ≤ pick3 a b c q := by
  unfold pick3; split <;> (try split) <;> omega
theorem lists_at {W : World} {L a b c : Nat} {la lb lc ca cb cc : Nat} (h : W.heap[L]? = some (.cells #[.slice (some ⟨a, 0, none⟩) la ca, .slice (some ⟨b, 0, none⟩) lb cb, .slice (some ⟨c, 0, none⟩) lc cc] 22)) (k : Nat) (hk : k < 3) :
    W.cell? ⟨L, k, none⟩ = some (.slice (some ⟨pick3 a b c k, 0, none⟩) (pick3 la lb lc k) (pick3 ca cb cc k)) := by
  have : k = 0 ∨ k = 1 ∨ k = 2 := by omega
  rcases this with rfl | rfl | rfl <;> exact cell_of h rfl

set_option maxRecDepth 100000 in
set_option maxHeartbeats 16000000 in
theorem named_walk (s : ByteArray) (n : Int) (gs xs zs : List Pau) (d : Int) (hp : Makes 21 s n gs xs zs d) (hr : Makes 20 s n gs xs zs d) (t1 t2 : Bool) (ht1 : (s.toList == [102, 105, 118, 101]) = t1) (ht2 : (s.toList == [115, 116, 101, 97, 110, 101]) = t2) (hd : d = if t1 || t2 then 3 else 1)
    (w : World) : Calls Try.prog 5 #[.string s] w fun e w' => e = .returned (.bool true) ∧ Below w.heap.size w w' := by
  go_enter Try.func5, Try.ntmps5
  go_wp2_with fail
  go_at_call 9
  refine (alive_calls _).mono ?_
  rintro e w1 ⟨rfl, hb1⟩
  have HB1 := Lib.hid hb1
  clear hb1
  go_wp2_with fail
  go_at_call 20
  refine (hr _).mono ?_
  rintro e w2 ⟨c0, rfl, ow⟩
  obtain ⟨n0, ga0, gc0, gs0, xa0, xc0, xs0, za0, zc0, zs0⟩ := c0
  have hl := ow.like
  simp only at hl
  obtain ⟨rfl, rfl, rfl, rfl⟩ := hl
  obtain ⟨g0, x0, z0, eg0, ex0, ez0, ra0, rb0, rc0, lo0, gx0, xz0⟩ := ow.own
  simp only at eg0 ex0 ez0
  subst eg0 ex0 ez0
  have hz0 : z0 < w2.heap.size := rc0.lt
  have HBB := below1 w2 (.cells #[.int .i64 n0, .slice (some ⟨g0, 0, none⟩) gs0.length gc0, .slice (some ⟨x0, 0, none⟩) xs0.length xc0, .slice (some ⟨z0, 0, none⟩) zs0.length zc0] 24)
  have HB2 := Lib.hid ((HB1.out.trans (ow.below.mono HB1.out.size)).trans (HBB.mono (Nat.le_trans HB1.out.size ow.below.size)))
  have HX3 := Lib.hid (BoxAt.new w2 ⟨n0, some ⟨g0, 0, none⟩, gc0, gs0, some ⟨x0, 0, none⟩, xc0, xs0, some ⟨z0, 0, none⟩, zc0, zs0⟩)
  have HR3 := Lib.hid (ow.code.below HBB)
  have HW1S : Hid (w1.heap.size ≤ w2.heap.size ∧ w.heap.size ≤ w1.heap.size) := Lib.hid ⟨ow.below.size, HB1.out.size⟩
  clear ow ra0 rb0 rc0 HBB
  go_wp2_with fail
  go_at_call 21
  refine (hp _).mono ?_
  rintro e w3 ⟨ca, rfl, ow⟩
  obtain ⟨n1, ga1, gc1, gs1, xa1, xc1, xs1, za1, zc1, zs1⟩ := ca
  have hl := ow.like
  simp only at hl
  obtain ⟨rfl, rfl, rfl, rfl⟩ := hl
  obtain ⟨g1, x1, z1, eg1, ex1, ez1, ra1, rb1, rc1, lo1, gx1, xz1⟩ := ow.own
  simp only at eg1 ex1 ez1
  subst eg1 ex1 ez1
  have hz1 : z1 < w3.heap.size := rc1.lt
  have lo1' : w2.heap.size < g1 := by simp at lo1; omega
  have hs3 : w2.heap.size < w3.heap.size := by have := ow.below.size; simp at this; omega
  clear lo1
  have HBB := below1 w3 (.cells #[.int .i64 n1, .slice (some ⟨g1, 0, none⟩) gs1.length gc1, .slice (some ⟨x1, 0, none⟩) xs1.length xc1, .slice (some ⟨z1, 0, none⟩) zs1.length zc1] 24)
  have HB3 := Lib.hid ((HB2.out.trans (ow.below.mono HB2.out.size)).trans (HBB.mono (Nat.le_trans HB2.out.size ow.below.size)))
  replace HX3 := Lib.hid ((HX3.out.step ow.below).step HBB)
  replace HR3 := Lib.hid ((HR3.out.below ow.below).below HBB)
  have HX5 := Lib.hid (BoxAt.new w3 ⟨n1, some ⟨g1, 0, none⟩, gc1, gs1, some ⟨x1, 0, none⟩, xc1, xs1, some ⟨z1, 0, none⟩, zc1, zs1⟩)
  have HR5 := Lib.hid (ow.code.below HBB)
  have HRA := Lib.hid (ra1.below ra1.lt HBB)
  have HRB := Lib.hid (rb1.below rb1.lt HBB)
  have HRC := Lib.hid (rc1.below rc1.lt HBB)
  clear ow ra1 rb1 rc1 HBB HB2
  go_wp2_with fail
  go_at_call 21
  refine (hp _).mono ?_
  rintro e w4 ⟨cb, rfl, ow⟩
  obtain ⟨n2, ga2, gc2, gs2, xa2, xc2, xs2, za2, zc2, zs2⟩ := cb
  have hl := ow.like
  simp only at hl
  obtain ⟨rfl, rfl, rfl, rfl⟩ := hl
  obtain ⟨g2, x2, z2, eg2, ex2, ez2, ra2, rb2, rc2, lo2, gx2, xz2⟩ := ow.own
  simp only at eg2 ex2 ez2
  subst eg2 ex2 ez2
  have hz2 : z2 < w4.heap.size := rc2.lt
  have lo2' : w3.heap.size < g2 := by simp at lo2; omega
  have hs4 : w3.heap.size < w4.heap.size := by have := ow.below.size; simp at this; omega
  clear lo2
  have HBB := below1 w4 (.cells #[.int .i64 n2, .slice (some ⟨g2, 0, none⟩) gs2.length gc2, .slice (some ⟨x2, 0, none⟩) xs2.length xc2, .slice (some ⟨z2, 0, none⟩) zs2.length zc2] 24)
  have HN := Lib.hid (N7.mk ((HB3.out.trans (ow.below.mono HB3.out.size)).trans (HBB.mono (Nat.le_trans HB3.out.size ow.below.size))) ((HX3.out.step ow.below).step HBB) ((HX5.out.step ow.below).step HBB) (BoxAt.new w4 ⟨n2, some ⟨g2, 0, none⟩, gc2, gs2, some ⟨x2, 0, none⟩, xc2, xs2, some ⟨z2, 0, none⟩, zc2, zs2⟩) ((HR3.out.below ow.below).below HBB) ((HR5.out.below ow.below).below HBB) (ow.code.below HBB))
  replace HRA := Lib.hid ((HRA.out.below HRA.out.lt ow.below).below (Nat.lt_of_lt_of_le HRA.out.lt ow.below.size) HBB)
  replace HRB := Lib.hid ((HRB.out.below HRB.out.lt ow.below).below (Nat.lt_of_lt_of_le HRB.out.lt ow.below.size) HBB)
  replace HRC := Lib.hid ((HRC.out.below HRC.out.lt ow.below).below (Nat.lt_of_lt_of_le HRC.out.lt ow.below.size) HBB)
  have HGD := Lib.hid ow.good
  have HSM := Lib.hid ow.small
  have HDI := Lib.hid ow.dist
  clear ow ra2 rb2 rc2 HBB HB3 HX3 HX5 HR3 HR5 HB1
  obtain ⟨-, ⟨-, a0, a1, a2, a3⟩, ⟨-, b0, b1, b2, b3⟩, ⟨-, e0, e1, e2, e3⟩, -, -, -⟩ := HN.out
  simp only at a0 a1 a2 a3 b0 b1 b2 b3 e0 e1 e2 e3
  go_wp2_with fail
  go_at_call 22
  refine (same_calls ⟨n2, some ⟨g1, 0, none⟩, gc1, gs2, some ⟨x1, 0, none⟩, xc1, xs2, some ⟨z1, 0, none⟩, zc1, zs2⟩ ⟨n2, some ⟨g0, 0, none⟩, gc0, gs2, some ⟨x0, 0, none⟩, xc0, xs2, some ⟨z0, 0, none⟩, zc0, zs2⟩ _ HN.out.r5 HN.out.r3 true (iff_of_true rfl ⟨rfl, rfl, rfl, rfl⟩)).mono ?_
  rintro e w5 ⟨rfl, hb⟩
  have hs5 : w4.heap.size < w5.heap.size := by have := hb.size; simp at this; omega
  replace HN := Lib.hid (HN.out.step hb)
  replace HRA := Lib.hid (HRA.out.below HRA.out.lt hb)
  replace HRB := Lib.hid (HRB.out.below HRB.out.lt hb)
  replace HRC := Lib.hid (HRC.out.below HRC.out.lt hb)
  clear hb a0 a1 a2 a3 b0 b1 b2 b3 e0 e1 e2 e3
  obtain ⟨-, ⟨-, a0, a1, a2, a3⟩, ⟨-, b0, b1, b2, b3⟩, ⟨-, e0, e1, e2, e3⟩, -, -, -⟩ := HN.out
  simp only at a0 a1 a2 a3 b0 b1 b2 b3 e0 e1 e2 e3
  go_wp2_with fail
  go_at_call 22
  refine (same_calls ⟨n2, some ⟨g2, 0, none⟩, gc2, gs2, some ⟨x2, 0, none⟩, xc2, xs2, some ⟨z2, 0, none⟩, zc2, zs2⟩ ⟨n2, some ⟨g0, 0, none⟩, gc0, gs2, some ⟨x0, 0, none⟩, xc0, xs2, some ⟨z0, 0, none⟩, zc0, zs2⟩ _ HN.out.r7 HN.out.r3 true (iff_of_true rfl ⟨rfl, rfl, rfl, rfl⟩)).mono ?_
  rintro e w6 ⟨rfl, hb⟩
  have hs6 : w5.heap.size ≤ w6.heap.size := hb.size
  replace HN := Lib.hid (HN.out.step hb)
  replace HRA := Lib.hid (HRA.out.below HRA.out.lt hb)
  replace HRB := Lib.hid (HRB.out.below HRB.out.lt hb)
  replace HRC := Lib.hid (HRC.out.below HRC.out.lt hb)
  clear hb a0 a1 a2 a3 b0 b1 b2 b3 e0 e1 e2 e3
  obtain ⟨-, ⟨-, a0, a1, a2, a3⟩, ⟨-, b0, b1, b2, b3⟩, ⟨-, e0, e1, e2, e3⟩, -, -, -⟩ := HN.out
  simp only at a0 a1 a2 a3 b0 b1 b2 b3 e0 e1 e2 e3
  obtain ⟨W0, hW0⟩ : ∃ W0, W0 = w6.alloc (.cells #[.slice (some ⟨g1, 0, none⟩) gs2.length gc1, .slice (some ⟨x1, 0, none⟩) xs2.length xc1, .slice (some ⟨z1, 0, none⟩) zs2.length zc1] 22) := ⟨_, rfl⟩
  have HW0 := Lib.hid hW0
  clear hW0
  go_wp2_with fail
  rw [← HW0.out]
  have hbW : Below w6.heap.size w6 W0 := HW0.out ▸ below1 _ _
  have hLs : w6.heap.size < W0.heap.size := by rw [HW0.out]; simp
  have hH : W0.heap[w6.heap.size]? = some (.cells #[.slice (some ⟨g1, 0, none⟩) gs2.length gc1, .slice (some ⟨x1, 0, none⟩) xs2.length xc1, .slice (some ⟨z1, 0, none⟩) zs2.length zc1] 22) := by rw [HW0.out]; exact newAt _ _ rfl
  have HLA := Lib.hid (fun k hk => lists_at hH k hk)
  have HNW := Lib.hid (HN.out.step hbW)
  have HINJ := Lib.hid (pick3_inj gx1 xz1)
  have HLT := Lib.hid (fun q => pick3_lt (N := w3.heap.size) gx1 xz1 hz1 q)
  have HGE := Lib.hid (fun q => pick3_ge (N := w2.heap.size + 1) gx1 xz1 lo1' q)
  have HWR0 : Hid (Wr W0 (pick3 g1 x1 z1) (pick3 gs2.length xs2.length zs2.length) 0 0 W0) := Lib.hid ⟨Only.refl _ _, fun q => if q = 0 then gs2 else if q = 1 then xs2 else zs2, fun q hq => by
    have h3 : q = 0 ∨ q = 1 ∨ q = 2 := by omega
    rcases h3 with rfl | rfl | rfl
    · exact ⟨rfl, HRA.out.below HRA.out.lt hbW, fun t ht h => by omega⟩
    · exact ⟨rfl, HRB.out.below HRB.out.lt hbW, fun t ht h => by omega⟩
    · exact ⟨rfl, HRC.out.below HRC.out.lt hbW, fun t ht h => by omega⟩⟩
  have HMS : Hid (∀ q, ((pick3 gs2.length xs2.length zs2.length q : Nat) : Int) ≤ 4398046511104) := Lib.hid (fun q => by
    have h1 := HNW.out.r5.g.sm
    have h2 := HNW.out.r5.x.sm
    have h3 := HNW.out.r5.z.sm
    simp only at h1 h2 h3
    unfold pick3
    split <;> (try split) <;> omega)
  have HSZ : Hid (W0.heap.size = w6.heap.size + 1) := Lib.hid (by rw [HW0.out]; simp)
  clear hH hbW HRA HRB HRC a0 a1 a2 a3 b0 b1 b2 b3 e0 e1 e2 e3
  have HLEN : Hid True := Lib.hid trivial
  clear HLEN
  have hbd : ∀ (a : Int) (w : World), (Instr.build 27 #[(0, .int .i64 a)]).run Try.prog w = .ok (.agg #[.int .i64 a, .int .u64 0, .int .u64 0, .int .i64 0]) w := fun a w => run_build w 27 _ _ (by kernel_rfl)
  generalize w6.heap.size = L at HLA hLs HSZ hs6 ⊢
  go_loopw [10] (fun sk W => ∃ k : Nat, k ≤ 3 ∧ sk = .int .i64 k ∧ Wr W0 (pick3 g1 x1 z1) (pick3 gs2.length xs2.length zs2.length) k 0 W) (fun sk _ => 3 - (intOf sk).toNat)
  case atStart => exact ⟨0, by omega, rfl, HWR0.out⟩
  case round =>
    obtain ⟨k, hk, rfl, hwr⟩ := hrel
    have HWR := Lib.hid hwr
    clear hwr
    by_cases hk3 : k < 3
    · have hm := HMS.out k
      have hix := idx53 L k hk3
      have HNS : Hid (¬ ∃ q, q < 3 ∧ L = pick3 g1 x1 z1 q) := Lib.hid (fun ⟨q, hq, e⟩ => by have := HLT.out q; omega)
      have HNF := Lib.hid (fun q => HLT.out q)
      clear HNF
      have hk3' : (k : Int) < 3 := by omega
      go_wp2_with fail
      go_loopw [11] (fun si W => ∃ i : Nat, i ≤ pick3 gs2.length xs2.length zs2.length k ∧ si = .int .i64 i ∧ Wr W0 (pick3 g1 x1 z1) (pick3 gs2.length xs2.length zs2.length) k i W) (fun si _ => pick3 gs2.length xs2.length zs2.length k - (intOf si).toNat)
      case atStart => exact ⟨0, by omega, rfl, HWR.out⟩
      case round =>
        obtain ⟨i, hi, rfl, hwr⟩ := hrel
        have HWR := Lib.hid hwr
        have hcell := (hwr.only.cell hLs HNS.out k).trans (HLA.out k hk3)
        by_cases hik : i < pick3 gs2.length xs2.length zs2.length k
        · have hix2 := idx22 (pick3 g1 x1 z1 k) (pick3 gs2.length xs2.length zs2.length k) (pick3 gc1 xc1 zc1 k) i hik
          obtain ⟨Lq, hL⟩ := hwr.rows
          obtain ⟨h1, h2, -⟩ := hL k hk3
          have hli : i < (Lq k).length := by omega
          obtain ⟨c0, c1, c2, c3⟩ := h2.at_ i hli
          have hfr := h2.free
          generalize (Lq k)[i] = p0 at c0 c1 c2 c3
          have HPUT := Lib.hid (HWR.out.put HINJ.out hk3 hik)
          clear hL h1 h2 hwr hli
          go_wp2_with fail
          go_roundw
          case rel => exact ⟨i + 1, by omega, by go_num, HPUT.out⟩
          case measure => simp [intOf]; omega
        · obtain rfl : i = pick3 gs2.length xs2.length zs2.length k := by omega
          have HWR2 := Lib.hid HWR.out.next
          clear hwr
          go_wp2_with fail
          go_roundw
          case rel => exact ⟨k + 1, by omega, by go_num, HWR2.out⟩
          case measure => simp [intOf]; omega
    · obtain rfl : k = 3 := by omega
      have hNS : ∀ B, B ≤ w2.heap.size ∨ w3.heap.size ≤ B → ¬ ∃ q, q < 3 ∧ B = pick3 g1 x1 z1 q := fun B hB ⟨q, hq, e⟩ => by
        have h1 := HLT.out q
        have h2 := HGE.out q
        omega
      have hsz := HSZ.out
      have hO := HWR.out.only
      have HN3 : Hid (N3 w ⟨n2, some ⟨g0, 0, none⟩, gc0, gs2, some ⟨x0, 0, none⟩, xc0, xs2, some ⟨z0, 0, none⟩, zc0, zs2⟩ ⟨n2, some ⟨g2, 0, none⟩, gc2, gs2, some ⟨x2, 0, none⟩, xc2, xs2, some ⟨z2, 0, none⟩, zc2, zs2⟩ w2.heap.size w4.heap.size wr) := Lib.hid ⟨HNW.out.below.trans (hO.below HNW.out.below.size (fun b ⟨q, hq, e⟩ => by have h2 := HGE.out q; have h3 := lo0; have h4 := HW1S.out; omega)),
        hO.box HNW.out.b3 (hNS _ (by omega)), hO.box HNW.out.b7 (hNS _ (by omega)),
        ⟨HNW.out.r3.n, hO.row HNW.out.r3.g (hNS _ (by omega)), hO.row HNW.out.r3.x (hNS _ (by omega)), hO.row HNW.out.r3.z (hNS _ (by omega))⟩,
        ⟨HNW.out.r7.n, hO.row HNW.out.r7.g (hNS _ (by omega)), hO.row HNW.out.r7.x (hNS _ (by omega)), hO.row HNW.out.r7.z (hNS _ (by omega))⟩⟩
      have hNL : ¬ ∃ q, q < 3 ∧ L = pick3 g1 x1 z1 q := hNS L (by omega)
      have HCL := Lib.hid (fun k hk => (hO.cell hLs hNL k).trans (HLA.out k hk))
      obtain ⟨Lq, hL⟩ := HWR.out.rows
      have HLQ := Lib.hid hL
      clear hL hO hNL hNS
      obtain ⟨W1, rfl⟩ : ∃ W1 : World, W1 = wr := ⟨_, rfl⟩
      go_wp2_with fail
      go_loopw [12] (fun sk W => ∃ k : Nat, k ≤ 3 ∧ sk = .int .i64 k ∧ W = W1) (fun sk _ => 3 - (intOf sk).toNat)
      case atStart => exact ⟨0, by omega, rfl, rfl⟩
      case round =>
        obtain ⟨k, hk, rfl, rfl⟩ := hrel
        by_cases hk3 : k < 3
        · have hm := HMS.out k
          have hix := idx53 L k hk3
          have hcell := HCL.out k hk3
          have hk3' : (k : Int) < 3 := by omega
          go_wp2_with fail
          go_loopw [13] (fun si W => ∃ i : Nat, i ≤ pick3 gs2.length xs2.length zs2.length k ∧ si = .int .i64 i ∧ W = wr) (fun si _ => pick3 gs2.length xs2.length zs2.length k - (intOf si).toNat)
          case atStart => exact ⟨0, by omega, rfl, rfl⟩
          case round =>
            obtain ⟨i, hi, rfl, rfl⟩ := hrel
            by_cases hik : i < pick3 gs2.length xs2.length zs2.length k
            · have hix2 := idx22 (pick3 g1 x1 z1 k) (pick3 gs2.length xs2.length zs2.length k) (pick3 gc1 xc1 zc1 k) i hik
              obtain ⟨h1, h2, h3⟩ := HLQ.out k hk3
              have hli : i < (Lq k).length := by omega
              obtain ⟨c0, c1, c2, c3⟩ := h2.at_ i hli
              have h4 := h3 i hli (.inl hk3)
              rw [h4] at c0
              clear h1 h2 h3 h4 c1 c2 c3
              go_wp2_with fail
              go_roundw
              case rel => exact ⟨i + 1, by omega, by go_num, by first | rfl | trivial⟩
              case measure => simp [intOf]; omega
            · obtain rfl : i = pick3 gs2.length xs2.length zs2.length k := by omega
              go_wp2_with fail
              go_roundw
              case rel => exact ⟨k + 1, by omega, by go_num, by first | rfl | trivial⟩
              case measure => simp [intOf]; omega
        · obtain rfl : k = 3 := by omega
          clear HWR0 HWR HLQ HCL HNW HLA HMS
          have hdi := HDI.out
          have hde : distE ⟨n2, some ⟨g2, 0, none⟩, gc2, gs2, some ⟨x2, 0, none⟩, xc2, xs2, some ⟨z2, 0, none⟩, zc2, zs2⟩ = 0 := by
            unfold distE
            rw [if_pos HGD.out, if_pos HSM.out]
          have hce : errC ⟨n2, some ⟨g2, 0, none⟩, gc2, gs2, some ⟨x2, 0, none⟩, xc2, xs2, some ⟨z2, 0, none⟩, zc2, zs2⟩ = 0 := by simp [errC, HGD.out]
          have c16 := fun W h => distance_calls ⟨n2, some ⟨g2, 0, none⟩, gc2, gs2, some ⟨x2, 0, none⟩, xc2, xs2, some ⟨z2, 0, none⟩, zc2, zs2⟩ W h
          have c10 := fun W h => check_c ⟨n2, some ⟨g2, 0, none⟩, gc2, gs2, some ⟨x2, 0, none⟩, xc2, xs2, some ⟨z2, 0, none⟩, zc2, zs2⟩ W h
          have c22 := fun W h3 h7 => same_calls ⟨n2, some ⟨g2, 0, none⟩, gc2, gs2, some ⟨x2, 0, none⟩, xc2, xs2, some ⟨z2, 0, none⟩, zc2, zs2⟩ ⟨n2, some ⟨g0, 0, none⟩, gc0, gs2, some ⟨x0, 0, none⟩, xc0, xs2, some ⟨z0, 0, none⟩, zc0, zs2⟩ W h7 h3 true (iff_of_true rfl ⟨rfl, rfl, rfl, rfl⟩)
          rw [hdi, hde] at c16
          rw [hce] at c10
          clear hdi hde hce HDI HGD HSM hp hr
          obtain ⟨-, ⟨-, a0, a1, a2, a3⟩, ⟨-, e0, e1, e2, e3⟩, -, -⟩ := HN3.out
          simp only at a0 a1 a2 a3 e0 e1 e2 e3
          cases t1 <;> cases t2
          all_goals
            simp only [Bool.or_true, Bool.true_or, Bool.or_false, if_true, Bool.false_eq_true, if_false] at hd
            subst hd
            go_wp2_with fail
            go_at_call 16
            refine (c16 _ HN3.out.r7).mono ?_
            rintro e w8 ⟨rfl, hb⟩
            replace HN3 := Lib.hid (HN3.out.step hb)
            clear hb a0 a1 a2 a3 e0 e1 e2 e3
            obtain ⟨-, ⟨-, a0, a1, a2, a3⟩, ⟨-, e0, e1, e2, e3⟩, -, -⟩ := HN3.out
            simp only at a0 a1 a2 a3 e0 e1 e2 e3
            go_wp2_with fail
            go_at_call 22
            refine (c22 _ HN3.out.r3 HN3.out.r7).mono ?_
            rintro e w9 ⟨rfl, hb⟩
            replace HN3 := Lib.hid (HN3.out.step hb)
            clear hb a0 a1 a2 a3 e0 e1 e2 e3
            obtain ⟨-, ⟨-, a0, a1, a2, a3⟩, ⟨-, e0, e1, e2, e3⟩, -, -⟩ := HN3.out
            simp only at a0 a1 a2 a3 e0 e1 e2 e3
            go_wp2_with fail
            go_at_call 10
            refine (c10 _ HN3.out.r7).mono ?_
            rintro e w10 ⟨rfl, hb⟩
            replace HN3 := Lib.hid (HN3.out.step hb)
            clear hb a0 a1 a2 a3 e0 e1 e2 e3
            go_wp2_with fail
            go_ret
            exact ⟨rfl, HN3.out.below⟩
end Go.Proofs.Ytfnmembjgclhoaa.CD
