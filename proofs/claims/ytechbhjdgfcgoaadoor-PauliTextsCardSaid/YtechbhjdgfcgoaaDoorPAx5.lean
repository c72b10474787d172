/- Printed for this claim by a program of the session: contracts of Go functions: a call answers what its Lean function tells, wherever that tells something. -/
import Derived.Test.YtechbhjdgfcgoaaDoorPAx0
import Derived.Test.YtechbhjdgfcgoaaDoorPAx4
namespace Go.Proofs.YtechbhjdgfcgoaaDoor.PA
open Go.RowKit Go.Proofs.YtechbhjdgfcgoaaDoorW.PrintWords Go.Proofs.YtechbhjdgfcgoaaDoorW.PrintLast Go.Proofs.YtechbhjdgfcgoaaDoorW.PrintMore
attribute [local go_sem] max2_int min2_int max_two min_two max_three min_three max_four min_four   -- for this text's walks alone
set_option linter.unusedVariables false
set_option linter.unusedSimpArgs false

/-! ### cubitref07_Parse: function 6 -/
mutual
def cubitref07_Parse.j0 : Nat → ByteArray → Int → Bool → Int → Int → Int → Int → Option (Int × Int × Int × Int × Int)
  | 0, _, _, _, _, _, _, _ => none
  | k + 1, x0, x5, x24, x147000, x147001, x147002, x147003 => if x24 = true then (if 0 ≤ x5 then (if x5 < (x0.size : Int) then (if (bt x0 x5) = 45 then (cubitref07_Parse.j1 k x0 (wrap64 (x5 + 1)) x147000 x147001 x147002 2) else (cubitref07_Parse.j1 k x0 (wrap64 (x5 + 1)) x147000 x147001 x147002 x147003)) else (none)) else (none)) else (cubitref07_Parse.j1 k x0 x5 x147000 x147001 x147002 x147003)
def cubitref07_Parse.j1 : Nat → ByteArray → Int → Int → Int → Int → Int → Option (Int × Int × Int × Int × Int)
  | 0, _, _, _, _, _, _ => none
  | k + 1, x0, x5, x147000, x147001, x147002, x147003 => if x5 < (x0.size : Int) then (if 0 ≤ x5 then (cubitref07_Parse.j2 k x0 x5 ((bt x0 x5) == 105) x147000 x147001 x147002 x147003) else (none)) else (cubitref07_Parse.j2 k x0 x5 false x147000 x147001 x147002 x147003)
def cubitref07_Parse.j2 : Nat → ByteArray → Int → Bool → Int → Int → Int → Int → Option (Int × Int × Int × Int × Int)
  | 0, _, _, _, _, _, _, _ => none
  | k + 1, x0, x5, x41, x147000, x147001, x147002, x147003 => if x41 = true then (cubitref07_Parse.j3 k x0 (wrap64 (x5 + 1)) x147000 x147001 x147002 (wrap64 (x147003 + 1))) else (cubitref07_Parse.j3 k x0 x5 x147000 x147001 x147002 x147003)
def cubitref07_Parse.j3 : Nat → ByteArray → Int → Int → Int → Int → Int → Option (Int × Int × Int × Int × Int)
  | 0, _, _, _, _, _, _ => none
  | k + 1, x0, x5, x147000, x147001, x147002, x147003 => cubitref07_Parse.l0 k x0 x5 (wrap64 ((x0.size : Int) - x5)) x5 x147000 x147001 x147002 x147003
def cubitref07_Parse.l0 : Nat → ByteArray → Int → Int → Int → Int → Int → Int → Int → Option (Int × Int × Int × Int × Int)
  | 0, _, _, _, _, _, _, _, _ => none
  | k + 1, x0, x5, x6, x7, x147000, x147001, x147002, x147003 => if x7 < (x0.size : Int) then (if 0 ≤ x7 then (if (bt x0 x7) = 73 then (cubitref07_Parse.l0 k x0 x5 x6 (wrap64 (x7 + 1)) x147000 x147001 x147002 x147003) else (if (bt x0 x7) = 88 then (cubitref07_Parse.l0 k x0 x5 x6 (wrap64 (x7 + 1)) x147000 x147001 x147002 x147003) else (if (bt x0 x7) = 89 then (cubitref07_Parse.l0 k x0 x5 x6 (wrap64 (x7 + 1)) x147000 x147001 x147002 x147003) else (if (bt x0 x7) = 90 then (cubitref07_Parse.l0 k x0 x5 x6 (wrap64 (x7 + 1)) x147000 x147001 x147002 x147003) else (some (0, 0, 0, 0, 70)))))) else (none)) else (if x6 > 64 then (some (0, 0, 0, 0, 1)) else (cubitref07_Parse.l1 k x0 x5 x6 x147001 x147002 x147003))
def cubitref07_Parse.l1 : Nat → ByteArray → Int → Int → Int → Int → Int → Option (Int × Int × Int × Int × Int)
  | 0, _, _, _, _, _, _ => none
  | k + 1, x0, x8, x147000, x147001, x147002, x147003 => if x8 < (x0.size : Int) then (if 0 ≤ x8 then (if (bt x0 x8) = 73 then (cubitref07_Parse.l1 k x0 (wrap64 (x8 + 1)) x147000 x147001 x147002 x147003) else ((cubitref07_set.f k x147000 x147001 x147002 x147003 (wrap64 ((wrap64 ((x0.size : Int) - 1)) - x8)) (wrap64 ((wrap64 ((wrap64 (bt x0 x8)) - 88)) + 1))).bind fun bt147 => (cubitref07_Parse.l1 k x0 (wrap64 (x8 + 1)) bt147.1 bt147.2.1 bt147.2.2.1 bt147.2.2.2))) else (none)) else (some (x147000, x147001, x147002, x147003, 0))
end
def cubitref07_Parse.f (k : Nat) (a0 : ByteArray) : Option (Int × Int × Int × Int × Int) := if 0 < (a0.size : Int) then (if (bt a0 0) = 43 then (cubitref07_Parse.j0 k a0 0 true 0 0 0 0) else (cubitref07_Parse.j0 k a0 0 ((bt a0 0) == 45) 0 0 0 0)) else (cubitref07_Parse.j0 k a0 0 false 0 0 0 0)
theorem cubitref07_Parse.mono_l : ∀ k, (∀ y0 y1 y2 y3 y4 y5 y6, LeO (cubitref07_Parse.j0 k y0 y1 y2 y3 y4 y5 y6) (cubitref07_Parse.j0 (k + 1) y0 y1 y2 y3 y4 y5 y6)) ∧ (∀ y0 y1 y2 y3 y4 y5, LeO (cubitref07_Parse.j1 k y0 y1 y2 y3 y4 y5) (cubitref07_Parse.j1 (k + 1) y0 y1 y2 y3 y4 y5)) ∧ (∀ y0 y1 y2 y3 y4 y5 y6, LeO (cubitref07_Parse.j2 k y0 y1 y2 y3 y4 y5 y6) (cubitref07_Parse.j2 (k + 1) y0 y1 y2 y3 y4 y5 y6)) ∧ (∀ y0 y1 y2 y3 y4 y5, LeO (cubitref07_Parse.j3 k y0 y1 y2 y3 y4 y5) (cubitref07_Parse.j3 (k + 1) y0 y1 y2 y3 y4 y5)) ∧ (∀ y0 y1 y2 y3 y4 y5 y6 y7, LeO (cubitref07_Parse.l0 k y0 y1 y2 y3 y4 y5 y6 y7) (cubitref07_Parse.l0 (k + 1) y0 y1 y2 y3 y4 y5 y6 y7)) ∧ (∀ y0 y1 y2 y3 y4 y5, LeO (cubitref07_Parse.l1 k y0 y1 y2 y3 y4 y5) (cubitref07_Parse.l1 (k + 1) y0 y1 y2 y3 y4 y5))
  | 0 => ⟨fun _ _ _ _ _ _ _ r h => by simp [cubitref07_Parse.j0] at h, fun _ _ _ _ _ _ r h => by simp [cubitref07_Parse.j1] at h, fun _ _ _ _ _ _ _ r h => by simp [cubitref07_Parse.j2] at h, fun _ _ _ _ _ _ r h => by simp [cubitref07_Parse.j3] at h, fun _ _ _ _ _ _ _ _ r h => by simp [cubitref07_Parse.l0] at h, fun _ _ _ _ _ _ r h => by simp [cubitref07_Parse.l1] at h⟩
  | k + 1 => by
    obtain ⟨ih0, ih1, ih2, ih3, ih4, ih5⟩ := cubitref07_Parse.mono_l k
    refine ⟨?_, ?_, ?_, ?_, ?_, ?_⟩
    · intro y0 y1 y2 y3 y4 y5 y6
      unfold cubitref07_Parse.j0
      repeat' first
      | (with_reducible exact ih0 _ _ _ _ _ _ _)
      | (with_reducible exact ih1 _ _ _ _ _ _)
      | (with_reducible exact ih2 _ _ _ _ _ _ _)
      | (with_reducible exact ih3 _ _ _ _ _ _)
      | (with_reducible exact ih4 _ _ _ _ _ _ _ _)
      | (with_reducible exact ih5 _ _ _ _ _ _)
      | (with_reducible exact cubitref07_set.mono _ _ _ _ _ _ _)
      | (with_reducible exact LeO.refl _)
      | (with_reducible exact LeO.none _)
      | (with_reducible refine LeO.ite ?_ ?_)
      | (with_reducible refine LeO.bind ?_ (fun _ => ?_))
      | exact ih0 _ _ _ _ _ _ _
      | exact ih1 _ _ _ _ _ _
      | exact ih2 _ _ _ _ _ _ _
      | exact ih3 _ _ _ _ _ _
      | exact ih4 _ _ _ _ _ _ _ _
      | exact ih5 _ _ _ _ _ _
      | exact cubitref07_set.mono _ _ _ _ _ _ _
      | exact LeO.none _
      | refine LeO.ite ?_ ?_
      | refine LeO.bind ?_ (fun _ => ?_)
    · intro y0 y1 y2 y3 y4 y5
      unfold cubitref07_Parse.j1
      repeat' first
      | (with_reducible exact ih0 _ _ _ _ _ _ _)
      | (with_reducible exact ih1 _ _ _ _ _ _)
      | (with_reducible exact ih2 _ _ _ _ _ _ _)
      | (with_reducible exact ih3 _ _ _ _ _ _)
      | (with_reducible exact ih4 _ _ _ _ _ _ _ _)
      | (with_reducible exact ih5 _ _ _ _ _ _)
      | (with_reducible exact cubitref07_set.mono _ _ _ _ _ _ _)
      | (with_reducible exact LeO.refl _)
      | (with_reducible exact LeO.none _)
      | (with_reducible refine LeO.ite ?_ ?_)
      | (with_reducible refine LeO.bind ?_ (fun _ => ?_))
      | exact ih0 _ _ _ _ _ _ _
      | exact ih1 _ _ _ _ _ _
      | exact ih2 _ _ _ _ _ _ _
      | exact ih3 _ _ _ _ _ _
      | exact ih4 _ _ _ _ _ _ _ _
      | exact ih5 _ _ _ _ _ _
      | exact cubitref07_set.mono _ _ _ _ _ _ _
      | exact LeO.none _
      | refine LeO.ite ?_ ?_
      | refine LeO.bind ?_ (fun _ => ?_)
    · intro y0 y1 y2 y3 y4 y5 y6
      unfold cubitref07_Parse.j2
      repeat' first
      | (with_reducible exact ih0 _ _ _ _ _ _ _)
      | (with_reducible exact ih1 _ _ _ _ _ _)
      | (with_reducible exact ih2 _ _ _ _ _ _ _)
      | (with_reducible exact ih3 _ _ _ _ _ _)
      | (with_reducible exact ih4 _ _ _ _ _ _ _ _)
      | (with_reducible exact ih5 _ _ _ _ _ _)
      | (with_reducible exact cubitref07_set.mono _ _ _ _ _ _ _)
      | (with_reducible exact LeO.refl _)
      | (with_reducible exact LeO.none _)
      | (with_reducible refine LeO.ite ?_ ?_)
      | (with_reducible refine LeO.bind ?_ (fun _ => ?_))
      | exact ih0 _ _ _ _ _ _ _
      | exact ih1 _ _ _ _ _ _
      | exact ih2 _ _ _ _ _ _ _
      | exact ih3 _ _ _ _ _ _
      | exact ih4 _ _ _ _ _ _ _ _
      | exact ih5 _ _ _ _ _ _
      | exact cubitref07_set.mono _ _ _ _ _ _ _
      | exact LeO.none _
      | refine LeO.ite ?_ ?_
      | refine LeO.bind ?_ (fun _ => ?_)
    · intro y0 y1 y2 y3 y4 y5
      unfold cubitref07_Parse.j3
      repeat' first
      | (with_reducible exact ih0 _ _ _ _ _ _ _)
      | (with_reducible exact ih1 _ _ _ _ _ _)
      | (with_reducible exact ih2 _ _ _ _ _ _ _)
      | (with_reducible exact ih3 _ _ _ _ _ _)
      | (with_reducible exact ih4 _ _ _ _ _ _ _ _)
      | (with_reducible exact ih5 _ _ _ _ _ _)
      | (with_reducible exact cubitref07_set.mono _ _ _ _ _ _ _)
      | (with_reducible exact LeO.refl _)
      | (with_reducible exact LeO.none _)
      | (with_reducible refine LeO.ite ?_ ?_)
      | (with_reducible refine LeO.bind ?_ (fun _ => ?_))
      | exact ih0 _ _ _ _ _ _ _
      | exact ih1 _ _ _ _ _ _
      | exact ih2 _ _ _ _ _ _ _
      | exact ih3 _ _ _ _ _ _
      | exact ih4 _ _ _ _ _ _ _ _
      | exact ih5 _ _ _ _ _ _
      | exact cubitref07_set.mono _ _ _ _ _ _ _
      | exact LeO.none _
      | refine LeO.ite ?_ ?_
      | refine LeO.bind ?_ (fun _ => ?_)
    · intro y0 y1 y2 y3 y4 y5 y6 y7
      unfold cubitref07_Parse.l0
      repeat' first
      | (with_reducible exact ih0 _ _ _ _ _ _ _)
      | (with_reducible exact ih1 _ _ _ _ _ _)
      | (with_reducible exact ih2 _ _ _ _ _ _ _)
      | (with_reducible exact ih3 _ _ _ _ _ _)
      | (with_reducible exact ih4 _ _ _ _ _ _ _ _)
      | (with_reducible exact ih5 _ _ _ _ _ _)
      | (with_reducible exact cubitref07_set.mono _ _ _ _ _ _ _)
      | (with_reducible exact LeO.refl _)
      | (with_reducible exact LeO.none _)
      | (with_reducible refine LeO.ite ?_ ?_)
      | (with_reducible refine LeO.bind ?_ (fun _ => ?_))
      | exact ih0 _ _ _ _ _ _ _
      | exact ih1 _ _ _ _ _ _
      | exact ih2 _ _ _ _ _ _ _
      | exact ih3 _ _ _ _ _ _
      | exact ih4 _ _ _ _ _ _ _ _
      | exact ih5 _ _ _ _ _ _
      | exact cubitref07_set.mono _ _ _ _ _ _ _
      | exact LeO.none _
      | refine LeO.ite ?_ ?_
      | refine LeO.bind ?_ (fun _ => ?_)
    · intro y0 y1 y2 y3 y4 y5
      unfold cubitref07_Parse.l1
      repeat' first
      | (with_reducible exact ih0 _ _ _ _ _ _ _)
      | (with_reducible exact ih1 _ _ _ _ _ _)
      | (with_reducible exact ih2 _ _ _ _ _ _ _)
      | (with_reducible exact ih3 _ _ _ _ _ _)
      | (with_reducible exact ih4 _ _ _ _ _ _ _ _)
      | (with_reducible exact ih5 _ _ _ _ _ _)
      | (with_reducible exact cubitref07_set.mono _ _ _ _ _ _ _)
      | (with_reducible exact LeO.refl _)
      | (with_reducible exact LeO.none _)
      | (with_reducible refine LeO.ite ?_ ?_)
      | (with_reducible refine LeO.bind ?_ (fun _ => ?_))
      | exact ih0 _ _ _ _ _ _ _
      | exact ih1 _ _ _ _ _ _
      | exact ih2 _ _ _ _ _ _ _
      | exact ih3 _ _ _ _ _ _
      | exact ih4 _ _ _ _ _ _ _ _
      | exact ih5 _ _ _ _ _ _
      | exact cubitref07_set.mono _ _ _ _ _ _ _
      | exact LeO.none _
      | refine LeO.ite ?_ ?_
      | refine LeO.bind ?_ (fun _ => ?_)
theorem cubitref07_Parse.mono : ∀ a0 k, LeO (cubitref07_Parse.f k a0) (cubitref07_Parse.f (k + 1) a0) := by
  intro a0 k
  obtain ⟨ih0, ih1, ih2, ih3, ih4, ih5⟩ := cubitref07_Parse.mono_l k
  unfold cubitref07_Parse.f
  repeat' first
      | (with_reducible exact ih0 _ _ _ _ _ _ _)
      | (with_reducible exact ih1 _ _ _ _ _ _)
      | (with_reducible exact ih2 _ _ _ _ _ _ _)
      | (with_reducible exact ih3 _ _ _ _ _ _)
      | (with_reducible exact ih4 _ _ _ _ _ _ _ _)
      | (with_reducible exact ih5 _ _ _ _ _ _)
      | (with_reducible exact cubitref07_set.mono _ _ _ _ _ _ _)
      | (with_reducible exact LeO.refl _)
      | (with_reducible exact LeO.none _)
      | (with_reducible refine LeO.ite ?_ ?_)
      | (with_reducible refine LeO.bind ?_ (fun _ => ?_))
      | exact ih0 _ _ _ _ _ _ _
      | exact ih1 _ _ _ _ _ _
      | exact ih2 _ _ _ _ _ _ _
      | exact ih3 _ _ _ _ _ _
      | exact ih4 _ _ _ _ _ _ _ _
      | exact ih5 _ _ _ _ _ _
      | exact cubitref07_set.mono _ _ _ _ _ _ _
      | exact LeO.none _
      | refine LeO.ite ?_ ?_
      | refine LeO.bind ?_ (fun _ => ?_)
def cubitref07_Parse.T23 : Bool × List (List Nat × List Nat) := (true, [([], []), ([], []), ([1], [1]), ([2], [2]), ([], []), ([3, 4], [3, 4]), ([], []), ([], []), ([6, 7], [6, 7]), ([8], [8]), ([9], [9]), ([10], [10]), ([0, 5, 11], [0, 5, 11]), ([12, 12, 0, 1, 2, 3, 4, 5, 6, 7, 8, 9, 10, 11, 12], [12])])
def cubitref07_Parse.B23 : List Nat := [0, 0, 2, 6, 0, 30, 0, 0, 192, 448, 960, 1984, 4095, 8191]
theorem cubitref07_Parse.tab23 : rtab .any (opsOf Tryd.f6 23) = cubitref07_Parse.T23 := by kernel_rfl
theorem cubitref07_Parse.bits23 : waitsOk cubitref07_Parse.T23.2 cubitref07_Parse.B23 = true := by kernel_rfl
set_option maxHeartbeats 8000000 in
set_option maxRecDepth 100000 in
theorem cubitref07_Parse.calls (k : Nat) (a0 : ByteArray) (r1 : Int) (r2 : Int) (r3 : Int) (r4 : Int) (r5 : Int) (w : World) (h : cubitref07_Parse.f k a0 = some (r1, r2, r3, r4, r5)) :
    Calls Tryd.prog 6 #[.string a0] w fun e w' => e = .returned (.tuple #[.agg #[.int .i64 r1, .int .u64 r2, .int .u64 r3, .int .i64 r4], .int .i64 r5]) ∧ Below w.heap.size w w' := by
  have hu26 := Tryd.underlying26
  have HB := Aside0.mk (Below.refl w.heap.size w)
  have H : (if 0 < (a0.size : Int) then (if (bt a0 0) = 43 then (cubitref07_Parse.j0 k a0 0 true 0 0 0 0) else (cubitref07_Parse.j0 k a0 0 ((bt a0 0) == 45) 0 0 0 0)) else (cubitref07_Parse.j0 k a0 0 false 0 0 0 0)) = some (r1, r2, r3, r4, r5) := h
  clear h
  have HC2 := Aside0.mk H
  clear H
  go_enter Tryd.func6, Tryd.ntmps6
  go_upto_region 3 with (first | ((with_reducible refine gate_dst (N := 2) rfl ?_); refine box_event ?hg (N := 2) ?hd (cs := #[.int .i64 0, .int .u64 0, .int .u64 0, .int .i64 0]) (t := 26) ?hr ?_; (case hd => rfl); (case hg => rfl); (case hr => first | (go_simp; done) | (go_simp; rfl)); intro gb145 hg w3 hbox hb; have n0_ := Aside0.mk (below_step (by repeat (first | (with_reducible first | exact HB.out | apply below_alloc | apply pw_below_drewN | apply below_drew1) | exact HB.out)) hb); have n1_ := Aside0.mk (hbox); have n2_ := Aside0.mk ((by rw [hg]; exact (below_size (by repeat (first | (with_reducible first | exact HB.out | apply below_alloc | apply pw_below_drewN | apply below_drew1) | exact HB.out))) : w.heap.size ≤ gb145)); have n3_ := Aside0.mk ((by rw [hg]; exact (below_size (by repeat (first | (with_reducible first | exact HB.out | apply below_alloc | apply pw_below_drewN | apply below_drew1) | exact HB.out))) : w.heap.size ≤ gb145)); clear HB; have HB := n0_; have BK145 := n1_; have GW145 := n2_; have GE145 := n3_; clear n0_ n1_ n2_ n3_; clear hb hbox hg) | ((with_reducible refine gate_dst (N := 4) rfl ?_); refine box_event ?hg (N := 4) ?hd (cs := #[.int .i64 0, .int .u64 0, .int .u64 0, .int .i64 0]) (t := 26) ?hr ?_; (case hd => rfl); (case hg => rfl); (case hr => first | (go_simp; done) | (go_simp; rfl)); intro gb146 hg w4 hbox hb; have n0_ := Aside0.mk (blk_below (g := gb145) (o := .cells #[.int .i64 0, .int .u64 0, .int .u64 0, .int .i64 0] 26 (0, 0)) (by (with_reducible repeat (first | refine blk_drewN ?_ _ | refine blk_drew ?_ | refine blk_alloc ?_ _)); exact BK145.out) hb); have n1_ := Aside0.mk (below_step (by repeat (first | (with_reducible first | exact HB.out | apply below_alloc | apply pw_below_drewN | apply below_drew1 | refine below_set ?_ GE145.out) | exact HB.out)) hb); have n2_ := Aside0.mk (hbox); have n3_ := Aside0.mk ((by rw [hg]; exact (below_size (by repeat (first | (with_reducible first | exact HB.out | apply below_alloc | apply pw_below_drewN | apply below_drew1 | refine below_set ?_ GE145.out) | exact HB.out))) : w.heap.size ≤ gb146)); have n4_ := Aside0.mk ((by rw [hg]; exact (below_size (by repeat (first | (with_reducible first | exact HB.out | apply below_alloc | apply pw_below_drewN | apply below_drew1 | refine below_set ?_ GE145.out) | exact HB.out))) : w.heap.size ≤ gb146)); have n5_ := Aside0.mk ((by rw [hg]; exact Nat.ne_of_lt (blk_lt (g := gb145) (o := .cells #[.int .i64 0, .int .u64 0, .int .u64 0, .int .i64 0] 26 (0, 0)) (by (with_reducible repeat (first | refine blk_drewN ?_ _ | refine blk_drew ?_ | refine blk_alloc ?_ _)); exact BK145.out)) : gb145 ≠ gb146)); have n6_ := Aside0.mk ((by rw [hg]; exact Nat.ne_of_gt (blk_lt (g := gb145) (o := .cells #[.int .i64 0, .int .u64 0, .int .u64 0, .int .i64 0] 26 (0, 0)) (by (with_reducible repeat (first | refine blk_drewN ?_ _ | refine blk_drew ?_ | refine blk_alloc ?_ _)); exact BK145.out)) : gb146 ≠ gb145)); clear BK145; clear HB; have BK145 := n0_; have HB := n1_; have BK146 := n2_; have GW146 := n3_; have GE146 := n4_; have NB145_146 := n5_; have NB146_145 := n6_; clear n0_ n1_ n2_ n3_ n4_ n5_ n6_; clear hb hbox hg))
  (try simp only [Act.put, List.setIfInBounds_toArray, List.set_cons_zero, List.set_cons_succ])
  go_cut [24] (fun v24 wc => ∃ (kq : Nat) (x24_1 : Bool), v24 = .bool x24_1 ∧ Aside0 (cubitref07_Parse.j0 kq a0 0 x24_1 0 0 0 0 = some (r1, r2, r3, r4, r5)) ∧ Aside0 (kq ≤ k) ∧ Aside0 (wc.heap[gb145]? = some (.cells #[.int .i64 0, .int .u64 0, .int .u64 0, .int .i64 0] 26 (0, 0))) ∧ Aside0 (wc.heap[gb146]? = some (.cells #[.int .i64 0, .int .u64 0, .int .u64 0, .int .i64 0] 26 (0, 0))) ∧ Aside0 (Below w.heap.size w wc))
  case first =>
    have H := HC2.out
    clear HC2
    by_cases c5 : 0 < (a0.size : Int)
    · rw [if_pos c5] at H
      have c5b0 : decide (0 < (a0.size : Int)) = true := decide_eq_true c5
      have c5b1 : decide (0 < a0.size) = true := decide_eq_true (by omega)
      clear c5
      (first | rw [c5b0] | (simp only [i64_w, i32_w]; rw [c5b0]) | skip)
      by_cases c7 : (bt a0 0) = 43
      · rw [if_pos c7] at H
        have c7b0 : ((bt a0 0) == 43) = true := beq_iff_eq.mpr c7
        have c7b1 : ((bt a0 0) != 43) = false := bne_eq_false_iff_eq.mpr c7
        clear c7
        have H' := Aside0.mk H
        clear H
        have p6 : 0 ≤ (0 : Int) := (by omega)
        have q6 : 0 < a0.size := (by have : (0 : Int) < (a0.size : Int) := of_decide_eq_true (by first | (with_reducible assumption) | assumption); omega)
        have hx6 : ∀ h : 0 < a0.size, ((a0[0]'h).toNat : Int) = bt a0 0 := bt_at a0 0
        clear p6
        have qi6 : (0 < (a0.size : Int)) = True := eq_true (of_decide_eq_true (by first | (with_reducible assumption) | assumption))
        replace q6 := eq_true q6
        go_wp2
        go_meet
        case rel => exact ⟨_, (true), (by first | rfl | (simp; done) | (simp [*]; done)), H', ⟨by first | omega | exact Nat.le_refl _⟩, ⟨by (with_reducible repeat (first | refine blk_drewN ?_ _ | refine blk_drew ?_ | refine blk_alloc ?_ _)); exact BK145.out⟩, ⟨by (with_reducible repeat (first | refine blk_drewN ?_ _ | refine blk_drew ?_ | refine blk_alloc ?_ _)); exact BK146.out⟩, ⟨by repeat (first | (with_reducible first | exact HB.out | apply below_alloc | apply pw_below_drewN | apply below_drew1 | refine below_set ?_ GE145.out | refine below_set ?_ GE146.out) | exact HB.out)⟩⟩
      · rw [if_neg c7] at H
        have c7b0 : ((bt a0 0) == 43) = false := beq_eq_false_iff_ne.mpr c7
        have c7b1 : ((bt a0 0) != 43) = true := bne_iff_ne.mpr c7
        have H' := Aside0.mk H
        clear H
        have p6 : 0 ≤ (0 : Int) := (by omega)
        have q6 : 0 < a0.size := (by have : (0 : Int) < (a0.size : Int) := of_decide_eq_true (by first | (with_reducible assumption) | assumption); omega)
        have hx6 : ∀ h : 0 < a0.size, ((a0[0]'h).toNat : Int) = bt a0 0 := bt_at a0 0
        clear p6
        have qi6 : (0 < (a0.size : Int)) = True := eq_true (of_decide_eq_true (by first | (with_reducible assumption) | assumption))
        replace q6 := eq_true q6
        have p8 : 0 ≤ (0 : Int) := (by omega)
        have q8 : 0 < a0.size := (by have : (0 : Int) < (a0.size : Int) := of_decide_eq_true (by first | (with_reducible assumption) | assumption); omega)
        have hx8 : ∀ h : 0 < a0.size, ((a0[0]'h).toNat : Int) = bt a0 0 := bt_at a0 0
        clear p8
        have qi8 : (0 < (a0.size : Int)) = True := eq_true (of_decide_eq_true (by first | (with_reducible assumption) | assumption))
        replace q8 := eq_true q8
        go_wp2
        go_meet
        case rel => exact ⟨_, (((bt a0 0) == 45)), (by first | rfl | (simp; done) | (simp [*]; done)), H', ⟨by first | omega | exact Nat.le_refl _⟩, ⟨by (with_reducible repeat (first | refine blk_drewN ?_ _ | refine blk_drew ?_ | refine blk_alloc ?_ _)); exact BK145.out⟩, ⟨by (with_reducible repeat (first | refine blk_drewN ?_ _ | refine blk_drew ?_ | refine blk_alloc ?_ _)); exact BK146.out⟩, ⟨by repeat (first | (with_reducible first | exact HB.out | apply below_alloc | apply pw_below_drewN | apply below_drew1 | refine below_set ?_ GE145.out | refine below_set ?_ GE146.out) | exact HB.out)⟩⟩
    · rw [if_neg c5] at H
      have c5b0 : decide (0 < (a0.size : Int)) = false := decide_eq_false c5
      have c5b1 : decide (0 < a0.size) = false := decide_eq_false (by omega)
      clear c5
      (first | rw [c5b0] | (simp only [i64_w, i32_w]; rw [c5b0]) | skip)
      have H' := Aside0.mk H
      clear H
      go_wp2
      go_meet
      case rel => exact ⟨_, (false), (by first | rfl | (simp; done) | (simp [*]; done)), H', ⟨by first | omega | exact Nat.le_refl _⟩, ⟨by (with_reducible repeat (first | refine blk_drewN ?_ _ | refine blk_drew ?_ | refine blk_alloc ?_ _)); exact BK145.out⟩, ⟨by (with_reducible repeat (first | refine blk_drewN ?_ _ | refine blk_drew ?_ | refine blk_alloc ?_ _)); exact BK146.out⟩, ⟨by repeat (first | (with_reducible first | exact HB.out | apply below_alloc | apply pw_below_drewN | apply below_drew1 | refine below_set ?_ GE145.out | refine below_set ?_ GE146.out) | exact HB.out)⟩⟩
  case rest =>
    clear HC2
    try clear p2
    try clear c5
    try clear c5b0
    try clear c5b1
    try clear c6
    try clear p6
    try clear q6
    try clear hx6
    try clear qi6
    try clear c7
    try clear c7b0
    try clear c7b1
    try clear p8
    try clear q8
    try clear hx8
    try clear qi8
    try clear p6
    try clear p8
    try clear q6
    try clear q8
    obtain ⟨kq, x24_1, rfl, HA, HJ1, BK145, BK146, HB⟩ := hcut
    cases kq with
    | zero => exact absurd HA.out (by simp [cubitref07_Parse.j0])
    | succ kj1 =>
      have H := HA.out
      clear HA
      simp only [cubitref07_Parse.j0] at H
      have HC9 := Aside0.mk H
      clear H
      go_upto_if 24 with (fail)
      go_cut [5] (fun v5 wc => ∃ (kq : Nat) (x5_8 : Int) (x147003_8 : Int), v5 = .int .i64 x5_8 ∧ Aside0 (cubitref07_Parse.j1 kq a0 x5_8 0 0 0 x147003_8 = some (r1, r2, r3, r4, r5)) ∧ Aside0 (kq ≤ kj1) ∧ Aside0 (wc.heap[gb145]? = some (.cells #[.int .i64 0, .int .u64 0, .int .u64 0, .int .i64 0] 26 (0, 0))) ∧ Aside0 (wc.heap[gb146]? = some (.cells #[.int .i64 0, .int .u64 0, .int .u64 0, .int .i64 x147003_8] 26 (0, 0))) ∧ Aside0 (Below w.heap.size w wc))
      case first =>
        have H := HC9.out
        clear HC9
        by_cases c10 : x24_1 = true
        · subst c10
          have H1 : (if 0 ≤ 0 then (if 0 < (a0.size : Int) then (if (bt a0 0) = 45 then (cubitref07_Parse.j1 kj1 a0 (wrap64 (0 + 1)) 0 0 0 2) else (cubitref07_Parse.j1 kj1 a0 (wrap64 (0 + 1)) 0 0 0 0)) else (none)) else (none)) = some (r1, r2, r3, r4, r5) := by rw [if_pos rfl] at H; exact H
          clear H
          have H := H1
          clear H1
          by_cases c11 : 0 ≤ 0
          · rw [if_pos c11] at H
            have c11b0 : decide (0 ≤ 0) = true := decide_eq_true c11
            clear c11
            (first | rw [c11b0] | (simp only [i64_w, i32_w]; rw [c11b0]) | skip)
            by_cases c12 : 0 < (a0.size : Int)
            · rw [if_pos c12] at H
              have c12b0 : decide (0 < (a0.size : Int)) = true := decide_eq_true c12
              have c12b1 : decide (0 < a0.size) = true := decide_eq_true (by omega)
              clear c12
              by_cases c14 : (bt a0 0) = 45
              · rw [if_pos c14] at H
                have c14b0 : ((bt a0 0) == 45) = true := beq_iff_eq.mpr c14
                have c14b1 : ((bt a0 0) != 45) = false := bne_eq_false_iff_eq.mpr c14
                clear c14
                have H' := Aside0.mk H
                clear H
                have p13 : 0 ≤ (0 : Int) := (by omega)
                have q13 : 0 < a0.size := (by have : (0 : Int) < (a0.size : Int) := of_decide_eq_true (by first | (with_reducible assumption) | assumption); omega)
                have hx13 : ∀ h : 0 < a0.size, ((a0[0]'h).toNat : Int) = bt a0 0 := bt_at a0 0
                clear p13
                have qi13 : (0 < (a0.size : Int)) = True := eq_true (of_decide_eq_true (by first | (with_reducible assumption) | assumption))
                replace q13 := eq_true q13
                have hnb15 := NB146_145.out
                have hnc15 := NB145_146.out
                have hcz16_0 : wc.cell? ⟨gb146, 0, none⟩ = some (.int .i64 0) := (blk_cell BK146.out 0).trans rfl
                have hcz16_1 : wc.cell? ⟨gb146, 1, none⟩ = some (.int .u64 0) := (blk_cell BK146.out 1).trans rfl
                have hcz16_2 : wc.cell? ⟨gb146, 2, none⟩ = some (.int .u64 0) := (blk_cell BK146.out 2).trans rfl
                have hcz16_3 : wc.cell? ⟨gb146, 3, none⟩ = some (.int .i64 0) := (blk_cell BK146.out 3).trans rfl
                have hfz16_0 := blk_frozen BK146.out 0
                have hfz16_1 := blk_frozen BK146.out 1
                have hfz16_2 := blk_frozen BK146.out 2
                have hfz16_3 := blk_frozen BK146.out 3
                go_wp2
                go_meet
                case rel => exact ⟨_, (wrap64 (0 + 1)), (2), (by first | rfl | (simp; done) | (simp [*]; done) | (simp; decide +kernel)), H', ⟨by have := HJ1.out; first | omega | exact Nat.le_refl _⟩, ⟨by (with_reducible repeat (first | refine blk_drewN ?_ _ | refine blk_drew ?_ | refine blk_alloc ?_ _)); refine blk_far ?_ NB145_146.out _; (with_reducible repeat (first | refine blk_drewN ?_ _ | refine blk_drew ?_ | refine blk_alloc ?_ _)); exact BK145.out⟩, ⟨by (with_reducible repeat (first | refine blk_drewN ?_ _ | refine blk_drew ?_ | refine blk_alloc ?_ _)); refine blk_put (cs := #[.int .i64 0, .int .u64 0, .int .u64 0, .int .i64 0]) ?_ 3 _ rfl; (with_reducible repeat (first | refine blk_drewN ?_ _ | refine blk_drew ?_ | refine blk_alloc ?_ _)); exact BK146.out⟩, ⟨by repeat (first | (with_reducible first | exact HB.out | apply below_alloc | apply pw_below_drewN | apply below_drew1 | refine below_set ?_ GE145.out | refine below_set ?_ GE146.out) | exact HB.out)⟩⟩
              · rw [if_neg c14] at H
                have c14b0 : ((bt a0 0) == 45) = false := beq_eq_false_iff_ne.mpr c14
                have c14b1 : ((bt a0 0) != 45) = true := bne_iff_ne.mpr c14
                have H' := Aside0.mk H
                clear H
                have p13 : 0 ≤ (0 : Int) := (by omega)
                have q13 : 0 < a0.size := (by have : (0 : Int) < (a0.size : Int) := of_decide_eq_true (by first | (with_reducible assumption) | assumption); omega)
                have hx13 : ∀ h : 0 < a0.size, ((a0[0]'h).toNat : Int) = bt a0 0 := bt_at a0 0
                clear p13
                have qi13 : (0 < (a0.size : Int)) = True := eq_true (of_decide_eq_true (by first | (with_reducible assumption) | assumption))
                replace q13 := eq_true q13
                go_wp2
                go_meet
                case rel => exact ⟨_, (wrap64 (0 + 1)), (0), (by first | rfl | (simp; done) | (simp [*]; done) | (simp; decide +kernel)), H', ⟨by have := HJ1.out; first | omega | exact Nat.le_refl _⟩, ⟨by (with_reducible repeat (first | refine blk_drewN ?_ _ | refine blk_drew ?_ | refine blk_alloc ?_ _)); exact BK145.out⟩, ⟨by (with_reducible repeat (first | refine blk_drewN ?_ _ | refine blk_drew ?_ | refine blk_alloc ?_ _)); exact BK146.out⟩, ⟨by repeat (first | (with_reducible first | exact HB.out | apply below_alloc | apply pw_below_drewN | apply below_drew1 | refine below_set ?_ GE145.out | refine below_set ?_ GE146.out) | exact HB.out)⟩⟩
            · rw [if_neg c12] at H
              exact absurd H (by simp)
          · rw [if_neg c11] at H
            exact absurd H (by simp)
        · replace c10 := Bool.eq_false_iff.mpr c10
          subst c10
          have H1 : (cubitref07_Parse.j1 kj1 a0 0 0 0 0 0) = some (r1, r2, r3, r4, r5) := by rw [if_neg (show ¬ (false = true) by decide)] at H; exact H
          clear H
          have H := H1
          clear H1
          have H' := Aside0.mk H
          clear H
          go_wp2
          go_meet
          case rel => exact ⟨_, (0), (0), (by first | rfl | (simp; done) | (simp [*]; done)), H', ⟨by have := HJ1.out; first | omega | exact Nat.le_refl _⟩, ⟨by (with_reducible repeat (first | refine blk_drewN ?_ _ | refine blk_drew ?_ | refine blk_alloc ?_ _)); exact BK145.out⟩, ⟨by (with_reducible repeat (first | refine blk_drewN ?_ _ | refine blk_drew ?_ | refine blk_alloc ?_ _)); exact BK146.out⟩, ⟨by repeat (first | (with_reducible first | exact HB.out | apply below_alloc | apply pw_below_drewN | apply below_drew1 | refine below_set ?_ GE145.out | refine below_set ?_ GE146.out) | exact HB.out)⟩⟩
      case rest =>
        clear HC9
        try clear c1
        try clear p1
        try clear q1
        try clear hx1
        try clear qi1
        try clear p2
        try clear c5
        try clear c5b0
        try clear c5b1
        try clear c6
        try clear p6
        try clear q6
        try clear hx6
        try clear qi6
        try clear c7
        try clear c7b0
        try clear c7b1
        try clear p8
        try clear q8
        try clear hx8
        try clear qi8
        try clear c10
        try clear c11
        try clear c11b0
        try clear c12
        try clear c12b0
        try clear c12b1
        try clear p13
        try clear q13
        try clear hx13
        try clear qi13
        try clear c14
        try clear c14b0
        try clear c14b1
        try clear c15
        try clear hcz16_0
        try clear hcz16_1
        try clear hcz16_2
        try clear hcz16_3
        try clear hfz16_0
        try clear hfz16_1
        try clear hfz16_2
        try clear hfz16_3
        try clear p13
        try clear p2
        try clear p6
        try clear p8
        try clear q13
        try clear q6
        try clear q8
        obtain ⟨kq, x5_8, x147003_8, rfl, HA, HJ8, BK145, BK146, HB⟩ := hcut
        cases kq with
        | zero => exact absurd HA.out (by simp [cubitref07_Parse.j1])
        | succ kj8 =>
          have H := HA.out
          clear HA
          simp only [cubitref07_Parse.j1] at H
          have HC17 := Aside0.mk H
          clear H
          go_upto_region 7 with (fail)
          go_cut [41] (fun v41 wc => ∃ (kq : Nat) (x41_16 : Bool), v41 = .bool x41_16 ∧ Aside0 (cubitref07_Parse.j2 kq a0 x5_8 x41_16 0 0 0 x147003_8 = some (r1, r2, r3, r4, r5)) ∧ Aside0 (kq ≤ kj8) ∧ Aside0 (wc.heap[gb145]? = some (.cells #[.int .i64 0, .int .u64 0, .int .u64 0, .int .i64 0] 26 (0, 0))) ∧ Aside0 (wc.heap[gb146]? = some (.cells #[.int .i64 0, .int .u64 0, .int .u64 0, .int .i64 x147003_8] 26 (0, 0))) ∧ Aside0 (Below w.heap.size w wc))
          case first =>
            have H := HC17.out
            clear HC17
            by_cases c18 : x5_8 < (a0.size : Int)
            · rw [if_pos c18] at H
              have c18b0 : decide (x5_8 < (a0.size : Int)) = true := decide_eq_true c18
              clear c18
              (first | rw [c18b0] | (simp only [i64_w, i32_w]; rw [c18b0]) | skip)
              by_cases c19 : 0 ≤ x5_8
              · rw [if_pos c19] at H
                have c19b0 : decide (0 ≤ x5_8) = true := decide_eq_true c19
                clear c19
                have H' := Aside0.mk H
                clear H
                have p20 : 0 ≤ (x5_8 : Int) := of_decide_eq_true (by first | (with_reducible assumption) | assumption)
                have q20 : x5_8 < (a0.size : Int) := of_decide_eq_true (by first | (with_reducible assumption) | assumption)
                have hx20 := bt_at a0 x5_8
                replace p20 := eq_true p20
                replace q20 := eq_true q20
                go_wp2
                go_meet
                case rel => exact ⟨_, (((bt a0 x5_8) == 105)), (by first | rfl | (simp; done) | (simp [*]; done)), H', ⟨by have := HJ1.out; have := HJ8.out; first | omega | exact Nat.le_refl _⟩, ⟨by (with_reducible repeat (first | refine blk_drewN ?_ _ | refine blk_drew ?_ | refine blk_alloc ?_ _)); exact BK145.out⟩, ⟨by (with_reducible repeat (first | refine blk_drewN ?_ _ | refine blk_drew ?_ | refine blk_alloc ?_ _)); exact BK146.out⟩, ⟨by repeat (first | (with_reducible first | exact HB.out | apply below_alloc | apply pw_below_drewN | apply below_drew1 | refine below_set ?_ GE145.out | refine below_set ?_ GE146.out) | exact HB.out)⟩⟩
              · rw [if_neg c19] at H
                exact absurd H (by simp)
            · rw [if_neg c18] at H
              have c18b0 : decide (x5_8 < (a0.size : Int)) = false := decide_eq_false c18
              clear c18
              (first | rw [c18b0] | (simp only [i64_w, i32_w]; rw [c18b0]) | skip)
              have H' := Aside0.mk H
              clear H
              go_wp2
              go_meet
              case rel => exact ⟨_, (false), (by first | rfl | (simp; done) | (simp [*]; done)), H', ⟨by have := HJ1.out; have := HJ8.out; first | omega | exact Nat.le_refl _⟩, ⟨by (with_reducible repeat (first | refine blk_drewN ?_ _ | refine blk_drew ?_ | refine blk_alloc ?_ _)); exact BK145.out⟩, ⟨by (with_reducible repeat (first | refine blk_drewN ?_ _ | refine blk_drew ?_ | refine blk_alloc ?_ _)); exact BK146.out⟩, ⟨by repeat (first | (with_reducible first | exact HB.out | apply below_alloc | apply pw_below_drewN | apply below_drew1 | refine below_set ?_ GE145.out | refine below_set ?_ GE146.out) | exact HB.out)⟩⟩
          case rest =>
            clear HC17
            try clear c1
            try clear p1
            try clear q1
            try clear hx1
            try clear qi1
            try clear p2
            try clear q2
            try clear hx2
            try clear c5
            try clear c5b0
            try clear c5b1
            try clear c6
            try clear p6
            try clear q6
            try clear hx6
            try clear qi6
            try clear c7
            try clear c7b0
            try clear c7b1
            try clear p8
            try clear q8
            try clear hx8
            try clear qi8
            try clear c10
            try clear c11
            try clear c11b0
            try clear c12
            try clear c12b0
            try clear c12b1
            try clear p13
            try clear q13
            try clear hx13
            try clear qi13
            try clear c14
            try clear c14b0
            try clear c14b1
            try clear c15
            try clear c18
            try clear c18b0
            try clear c19
            try clear c19b0
            try clear p20
            try clear q20
            try clear hx20
            try clear hcz16_0
            try clear hcz16_1
            try clear hcz16_2
            try clear hcz16_3
            try clear hfz16_0
            try clear hfz16_1
            try clear hfz16_2
            try clear hfz16_3
            try clear p1
            try clear p13
            try clear p2
            try clear p20
            try clear p6
            try clear p8
            try clear q1
            try clear q13
            try clear q20
            try clear q6
            try clear q8
            obtain ⟨kq, x41_16, rfl, HA, HJ16, BK145, BK146, HB⟩ := hcut
            cases kq with
            | zero => exact absurd HA.out (by simp [cubitref07_Parse.j2])
            | succ kj16 =>
              have H := HA.out
              clear HA
              simp only [cubitref07_Parse.j2] at H
              have HC21 := Aside0.mk H
              clear H
              go_upto_if 41 with (fail)
              go_cut [5] (fun v5 wc => ∃ (kq : Nat) (x5_20 : Int) (x147003_20 : Int), v5 = .int .i64 x5_20 ∧ Aside0 (cubitref07_Parse.j3 kq a0 x5_20 0 0 0 x147003_20 = some (r1, r2, r3, r4, r5)) ∧ Aside0 (kq ≤ kj16) ∧ Aside0 (wc.heap[gb145]? = some (.cells #[.int .i64 0, .int .u64 0, .int .u64 0, .int .i64 0] 26 (0, 0))) ∧ Aside0 (wc.heap[gb146]? = some (.cells #[.int .i64 0, .int .u64 0, .int .u64 0, .int .i64 x147003_20] 26 (0, 0))) ∧ Aside0 (Below w.heap.size w wc))
              case first =>
                have H := HC21.out
                clear HC21
                by_cases c22 : x41_16 = true
                · subst c22
                  have H1 : (cubitref07_Parse.j3 kj16 a0 (wrap64 (x5_8 + 1)) 0 0 0 (wrap64 (x147003_8 + 1))) = some (r1, r2, r3, r4, r5) := by rw [if_pos rfl] at H; exact H
                  clear H
                  have H := H1
                  clear H1
                  have H' := Aside0.mk H
                  clear H
                  have hnb23 := NB146_145.out
                  have hnc23 := NB145_146.out
                  have hcz24_0 : wc.cell? ⟨gb146, 0, none⟩ = some (.int .i64 0) := (blk_cell BK146.out 0).trans rfl
                  have hcz24_1 : wc.cell? ⟨gb146, 1, none⟩ = some (.int .u64 0) := (blk_cell BK146.out 1).trans rfl
                  have hcz24_2 : wc.cell? ⟨gb146, 2, none⟩ = some (.int .u64 0) := (blk_cell BK146.out 2).trans rfl
                  have hcz24_3 : wc.cell? ⟨gb146, 3, none⟩ = some (.int .i64 x147003_8) := (blk_cell BK146.out 3).trans rfl
                  have hfz24_0 := blk_frozen BK146.out 0
                  have hfz24_1 := blk_frozen BK146.out 1
                  have hfz24_2 := blk_frozen BK146.out 2
                  have hfz24_3 := blk_frozen BK146.out 3
                  go_wp2
                  go_meet
                  case rel => exact ⟨_, (wrap64 (x5_8 + 1)), (wrap64 (x147003_8 + 1)), (by first | rfl | (simp; done) | (simp [*]; done)), H', ⟨by have := HJ1.out; have := HJ8.out; have := HJ16.out; first | omega | exact Nat.le_refl _⟩, ⟨by (with_reducible repeat (first | refine blk_drewN ?_ _ | refine blk_drew ?_ | refine blk_alloc ?_ _)); refine blk_far ?_ NB145_146.out _; (with_reducible repeat (first | refine blk_drewN ?_ _ | refine blk_drew ?_ | refine blk_alloc ?_ _)); exact BK145.out⟩, ⟨by (with_reducible repeat (first | refine blk_drewN ?_ _ | refine blk_drew ?_ | refine blk_alloc ?_ _)); refine blk_put (cs := #[.int .i64 0, .int .u64 0, .int .u64 0, .int .i64 x147003_8]) ?_ 3 _ rfl; (with_reducible repeat (first | refine blk_drewN ?_ _ | refine blk_drew ?_ | refine blk_alloc ?_ _)); exact BK146.out⟩, ⟨by repeat (first | (with_reducible first | exact HB.out | apply below_alloc | apply pw_below_drewN | apply below_drew1 | refine below_set ?_ GE145.out | refine below_set ?_ GE146.out) | exact HB.out)⟩⟩
                · replace c22 := Bool.eq_false_iff.mpr c22
                  subst c22
                  have H1 : (cubitref07_Parse.j3 kj16 a0 x5_8 0 0 0 x147003_8) = some (r1, r2, r3, r4, r5) := by rw [if_neg (show ¬ (false = true) by decide)] at H; exact H
                  clear H
                  have H := H1
                  clear H1
                  have H' := Aside0.mk H
                  clear H
                  go_wp2
                  go_meet
                  case rel => exact ⟨_, (x5_8), (x147003_8), (by first | rfl | (simp; done) | (simp [*]; done)), H', ⟨by have := HJ1.out; have := HJ8.out; have := HJ16.out; first | omega | exact Nat.le_refl _⟩, ⟨by (with_reducible repeat (first | refine blk_drewN ?_ _ | refine blk_drew ?_ | refine blk_alloc ?_ _)); exact BK145.out⟩, ⟨by (with_reducible repeat (first | refine blk_drewN ?_ _ | refine blk_drew ?_ | refine blk_alloc ?_ _)); exact BK146.out⟩, ⟨by repeat (first | (with_reducible first | exact HB.out | apply below_alloc | apply pw_below_drewN | apply below_drew1 | refine below_set ?_ GE145.out | refine below_set ?_ GE146.out) | exact HB.out)⟩⟩
              case rest =>
                clear HC21
                try clear c1
                try clear p1
                try clear q1
                try clear hx1
                try clear qi1
                try clear c2
                try clear p2
                try clear q2
                try clear hx2
                try clear c5
                try clear c5b0
                try clear c5b1
                try clear c6
                try clear p6
                try clear q6
                try clear hx6
                try clear qi6
                try clear c7
                try clear c7b0
                try clear c7b1
                try clear p8
                try clear q8
                try clear hx8
                try clear qi8
                try clear c10
                try clear c11
                try clear c11b0
                try clear c12
                try clear c12b0
                try clear c12b1
                try clear p13
                try clear q13
                try clear hx13
                try clear qi13
                try clear c14
                try clear c14b0
                try clear c14b1
                try clear c15
                try clear c18
                try clear c18b0
                try clear c19
                try clear c19b0
                try clear p20
                try clear q20
                try clear hx20
                try clear c22
                try clear c23
                try clear hcz16_0
                try clear hcz16_1
                try clear hcz16_2
                try clear hcz16_3
                try clear hcz24_0
                try clear hcz24_1
                try clear hcz24_2
                try clear hcz24_3
                try clear hfz16_0
                try clear hfz16_1
                try clear hfz16_2
                try clear hfz16_3
                try clear hfz24_0
                try clear hfz24_1
                try clear hfz24_2
                try clear hfz24_3
                try clear p1
                try clear p13
                try clear p2
                try clear p20
                try clear p6
                try clear p8
                try clear q1
                try clear q13
                try clear q2
                try clear q20
                try clear q6
                try clear q8
                obtain ⟨kq, x5_20, x147003_20, rfl, HA, HJ20, BK145, BK146, HB⟩ := hcut
                cases kq with
                | zero => exact absurd HA.out (by simp [cubitref07_Parse.j3])
                | succ kj20 =>
                  have H := HA.out
                  clear HA
                  simp only [cubitref07_Parse.j3] at H
                  have H' := Aside0.mk H
                  clear H
                  go_wp2
                  go_loopg [7] kj20 (fun kq v7 w' => ∃ (x7_5 : Int) (x146000_5 : Int) (x146001_5 : Int) (x146002_5 : Int) (x146003_5 : Int), v7 = .int .i64 x7_5 ∧ Aside0 (cubitref07_Parse.l0 kq a0 x5_20 (wrap64 ((a0.size : Int) - x5_20)) x7_5 0 0 0 x147003_20 = some (r1, r2, r3, r4, r5)) ∧ Aside0 (kq ≤ kj20) ∧ Aside0 (w'.heap[gb145]? = some (.cells #[.int .i64 x146000_5, .int .u64 x146001_5, .int .u64 x146002_5, .int .i64 x146003_5] 26 (0, 0))) ∧ Aside0 (w'.heap[gb146]? = some (.cells #[.int .i64 0, .int .u64 0, .int .u64 0, .int .i64 x147003_20] 26 (0, 0))) ∧ Aside0 (Below w.heap.size w w'))
                  case atStart => exact ⟨(x5_20), (0), (0), (0), (0), (by first | rfl | (simp; done) | (simp [*]; done)), H', ⟨Nat.le_refl _⟩, ⟨by (with_reducible repeat (first | refine blk_drewN ?_ _ | refine blk_drew ?_ | refine blk_alloc ?_ _)); exact BK145.out⟩, ⟨by (with_reducible repeat (first | refine blk_drewN ?_ _ | refine blk_drew ?_ | refine blk_alloc ?_ _)); exact BK146.out⟩, ⟨by repeat (first | (with_reducible first | exact HB.out | apply below_alloc | apply pw_below_drewN | apply below_drew1 | refine below_set ?_ GE145.out | refine below_set ?_ GE146.out) | exact HB.out)⟩⟩
                  case round =>
                    clear H'
                    try clear c1
                    try clear p1
                    try clear q1
                    try clear hx1
                    try clear qi1
                    try clear c2
                    try clear p2
                    try clear q2
                    try clear hx2
                    try clear c5
                    try clear c5b0
                    try clear c5b1
                    try clear c6
                    try clear p6
                    try clear q6
                    try clear hx6
                    try clear qi6
                    try clear c7
                    try clear c7b0
                    try clear c7b1
                    try clear p8
                    try clear q8
                    try clear hx8
                    try clear qi8
                    try clear c10
                    try clear c11
                    try clear c11b0
                    try clear c12
                    try clear c12b0
                    try clear c12b1
                    try clear p13
                    try clear q13
                    try clear hx13
                    try clear qi13
                    try clear c14
                    try clear c14b0
                    try clear c14b1
                    try clear c15
                    try clear c18
                    try clear c18b0
                    try clear c19
                    try clear c19b0
                    try clear p20
                    try clear q20
                    try clear hx20
                    try clear c22
                    try clear c23
                    try clear hcz16_0
                    try clear hcz16_1
                    try clear hcz16_2
                    try clear hcz16_3
                    try clear hcz24_0
                    try clear hcz24_1
                    try clear hcz24_2
                    try clear hcz24_3
                    try clear hfz16_0
                    try clear hfz16_1
                    try clear hfz16_2
                    try clear hfz16_3
                    try clear hfz24_0
                    try clear hfz24_1
                    try clear hfz24_2
                    try clear hfz24_3
                    try clear p1
                    try clear p13
                    try clear p2
                    try clear p20
                    try clear p6
                    try clear p8
                    try clear q1
                    try clear q13
                    try clear q2
                    try clear q20
                    try clear q6
                    try clear q8
                    obtain ⟨x7_5, x146000_5, x146001_5, x146002_5, x146003_5, rfl, HA, HK5, BK145, BK146, HB⟩ := hrel
                    cases gk with
                    | zero => exact absurd HA.out (by simp [cubitref07_Parse.l0])
                    | succ k5 =>
                      have H := HA.out
                      clear HA
                      simp only [cubitref07_Parse.l0] at H
                      by_cases c25 : x7_5 < (a0.size : Int)
                      · rw [if_pos c25] at H
                        have c25b0 : decide (x7_5 < (a0.size : Int)) = true := decide_eq_true c25
                        clear c25
                        by_cases c26 : 0 ≤ x7_5
                        · rw [if_pos c26] at H
                          have c26b0 : decide (0 ≤ x7_5) = true := decide_eq_true c26
                          clear c26
                          by_cases c28 : (bt a0 x7_5) = 73
                          · rw [if_pos c28] at H
                            have c28b0 : ((bt a0 x7_5) == 73) = true := beq_iff_eq.mpr c28
                            have c28b1 : ((bt a0 x7_5) != 73) = false := bne_eq_false_iff_eq.mpr c28
                            clear c28
                            have H' := Aside0.mk H
                            clear H
                            have p27 : 0 ≤ (x7_5 : Int) := of_decide_eq_true (by first | (with_reducible assumption) | assumption)
                            have q27 : x7_5 < (a0.size : Int) := of_decide_eq_true (by first | (with_reducible assumption) | assumption)
                            have hx27 := bt_at a0 x7_5
                            replace p27 := eq_true p27
                            replace q27 := eq_true q27
                            go_wp2
                            go_roundg k5
                            case measure => have := HJ1.out; have := HJ8.out; have := HJ16.out; have := HJ20.out; have := HK5.out; omega
                            case rel => exact ⟨(wrap64 (x7_5 + 1)), (x146000_5), (x146001_5), (x146002_5), (x146003_5), (by first | rfl | (simp; done) | (simp [*]; done)), H', ⟨by have := HJ1.out; have := HJ8.out; have := HJ16.out; have := HJ20.out; have := HK5.out; omega⟩, ⟨by (with_reducible repeat (first | refine blk_drewN ?_ _ | refine blk_drew ?_ | refine blk_alloc ?_ _)); exact BK145.out⟩, ⟨by (with_reducible repeat (first | refine blk_drewN ?_ _ | refine blk_drew ?_ | refine blk_alloc ?_ _)); exact BK146.out⟩, ⟨by repeat (first | (with_reducible first | exact HB.out | apply below_alloc | apply pw_below_drewN | apply below_drew1 | refine below_set ?_ GE145.out | refine below_set ?_ GE146.out) | exact HB.out)⟩⟩
                          · rw [if_neg c28] at H
                            have c28b0 : ((bt a0 x7_5) == 73) = false := beq_eq_false_iff_ne.mpr c28
                            have c28b1 : ((bt a0 x7_5) != 73) = true := bne_iff_ne.mpr c28
                            by_cases c30 : (bt a0 x7_5) = 88
                            · rw [if_pos c30] at H
                              have c30b0 : ((bt a0 x7_5) == 88) = true := beq_iff_eq.mpr c30
                              have c30b1 : ((bt a0 x7_5) != 88) = false := bne_eq_false_iff_eq.mpr c30
                              clear c30
                              have H' := Aside0.mk H
                              clear H
                              have p27 : 0 ≤ (x7_5 : Int) := of_decide_eq_true (by first | (with_reducible assumption) | assumption)
                              have q27 : x7_5 < (a0.size : Int) := of_decide_eq_true (by first | (with_reducible assumption) | assumption)
                              have hx27 := bt_at a0 x7_5
                              replace p27 := eq_true p27
                              replace q27 := eq_true q27
                              have p29 : 0 ≤ (x7_5 : Int) := of_decide_eq_true (by first | (with_reducible assumption) | assumption)
                              have q29 : x7_5 < (a0.size : Int) := of_decide_eq_true (by first | (with_reducible assumption) | assumption)
                              have hx29 := bt_at a0 x7_5
                              replace p29 := eq_true p29
                              replace q29 := eq_true q29
                              go_wp2
                              go_roundg k5
                              case measure => have := HJ1.out; have := HJ8.out; have := HJ16.out; have := HJ20.out; have := HK5.out; omega
                              case rel => exact ⟨(wrap64 (x7_5 + 1)), (x146000_5), (x146001_5), (x146002_5), (x146003_5), (by first | rfl | (simp; done) | (simp [*]; done)), H', ⟨by have := HJ1.out; have := HJ8.out; have := HJ16.out; have := HJ20.out; have := HK5.out; omega⟩, ⟨by (with_reducible repeat (first | refine blk_drewN ?_ _ | refine blk_drew ?_ | refine blk_alloc ?_ _)); exact BK145.out⟩, ⟨by (with_reducible repeat (first | refine blk_drewN ?_ _ | refine blk_drew ?_ | refine blk_alloc ?_ _)); exact BK146.out⟩, ⟨by repeat (first | (with_reducible first | exact HB.out | apply below_alloc | apply pw_below_drewN | apply below_drew1 | refine below_set ?_ GE145.out | refine below_set ?_ GE146.out) | exact HB.out)⟩⟩
                            · rw [if_neg c30] at H
                              have c30b0 : ((bt a0 x7_5) == 88) = false := beq_eq_false_iff_ne.mpr c30
                              have c30b1 : ((bt a0 x7_5) != 88) = true := bne_iff_ne.mpr c30
                              by_cases c32 : (bt a0 x7_5) = 89
                              · rw [if_pos c32] at H
                                have c32b0 : ((bt a0 x7_5) == 89) = true := beq_iff_eq.mpr c32
                                have c32b1 : ((bt a0 x7_5) != 89) = false := bne_eq_false_iff_eq.mpr c32
                                clear c32
                                have H' := Aside0.mk H
                                clear H
                                have p27 : 0 ≤ (x7_5 : Int) := of_decide_eq_true (by first | (with_reducible assumption) | assumption)
                                have q27 : x7_5 < (a0.size : Int) := of_decide_eq_true (by first | (with_reducible assumption) | assumption)
                                have hx27 := bt_at a0 x7_5
                                replace p27 := eq_true p27
                                replace q27 := eq_true q27
                                have p29 : 0 ≤ (x7_5 : Int) := of_decide_eq_true (by first | (with_reducible assumption) | assumption)
                                have q29 : x7_5 < (a0.size : Int) := of_decide_eq_true (by first | (with_reducible assumption) | assumption)
                                have hx29 := bt_at a0 x7_5
                                replace p29 := eq_true p29
                                replace q29 := eq_true q29
                                have p31 : 0 ≤ (x7_5 : Int) := of_decide_eq_true (by first | (with_reducible assumption) | assumption)
                                have q31 : x7_5 < (a0.size : Int) := of_decide_eq_true (by first | (with_reducible assumption) | assumption)
                                have hx31 := bt_at a0 x7_5
                                replace p31 := eq_true p31
                                replace q31 := eq_true q31
                                go_wp2
                                go_roundg k5
                                case measure => have := HJ1.out; have := HJ8.out; have := HJ16.out; have := HJ20.out; have := HK5.out; omega
                                case rel => exact ⟨(wrap64 (x7_5 + 1)), (x146000_5), (x146001_5), (x146002_5), (x146003_5), (by first | rfl | (simp; done) | (simp [*]; done)), H', ⟨by have := HJ1.out; have := HJ8.out; have := HJ16.out; have := HJ20.out; have := HK5.out; omega⟩, ⟨by (with_reducible repeat (first | refine blk_drewN ?_ _ | refine blk_drew ?_ | refine blk_alloc ?_ _)); exact BK145.out⟩, ⟨by (with_reducible repeat (first | refine blk_drewN ?_ _ | refine blk_drew ?_ | refine blk_alloc ?_ _)); exact BK146.out⟩, ⟨by repeat (first | (with_reducible first | exact HB.out | apply below_alloc | apply pw_below_drewN | apply below_drew1 | refine below_set ?_ GE145.out | refine below_set ?_ GE146.out) | exact HB.out)⟩⟩
                              · rw [if_neg c32] at H
                                have c32b0 : ((bt a0 x7_5) == 89) = false := beq_eq_false_iff_ne.mpr c32
                                have c32b1 : ((bt a0 x7_5) != 89) = true := bne_iff_ne.mpr c32
                                by_cases c34 : (bt a0 x7_5) = 90
                                · rw [if_pos c34] at H
                                  have c34b0 : ((bt a0 x7_5) == 90) = true := beq_iff_eq.mpr c34
                                  have c34b1 : ((bt a0 x7_5) != 90) = false := bne_eq_false_iff_eq.mpr c34
                                  clear c34
                                  have H' := Aside0.mk H
                                  clear H
                                  have p27 : 0 ≤ (x7_5 : Int) := of_decide_eq_true (by first | (with_reducible assumption) | assumption)
                                  have q27 : x7_5 < (a0.size : Int) := of_decide_eq_true (by first | (with_reducible assumption) | assumption)
                                  have hx27 := bt_at a0 x7_5
                                  replace p27 := eq_true p27
                                  replace q27 := eq_true q27
                                  have p29 : 0 ≤ (x7_5 : Int) := of_decide_eq_true (by first | (with_reducible assumption) | assumption)
                                  have q29 : x7_5 < (a0.size : Int) := of_decide_eq_true (by first | (with_reducible assumption) | assumption)
                                  have hx29 := bt_at a0 x7_5
                                  replace p29 := eq_true p29
                                  replace q29 := eq_true q29
                                  have p31 : 0 ≤ (x7_5 : Int) := of_decide_eq_true (by first | (with_reducible assumption) | assumption)
                                  have q31 : x7_5 < (a0.size : Int) := of_decide_eq_true (by first | (with_reducible assumption) | assumption)
                                  have hx31 := bt_at a0 x7_5
                                  replace p31 := eq_true p31
                                  replace q31 := eq_true q31
                                  have p33 : 0 ≤ (x7_5 : Int) := of_decide_eq_true (by first | (with_reducible assumption) | assumption)
                                  have q33 : x7_5 < (a0.size : Int) := of_decide_eq_true (by first | (with_reducible assumption) | assumption)
                                  have hx33 := bt_at a0 x7_5
                                  replace p33 := eq_true p33
                                  replace q33 := eq_true q33
                                  go_wp2
                                  go_roundg k5
                                  case measure => have := HJ1.out; have := HJ8.out; have := HJ16.out; have := HJ20.out; have := HK5.out; omega
                                  case rel => exact ⟨(wrap64 (x7_5 + 1)), (x146000_5), (x146001_5), (x146002_5), (x146003_5), (by first | rfl | (simp; done) | (simp [*]; done)), H', ⟨by have := HJ1.out; have := HJ8.out; have := HJ16.out; have := HJ20.out; have := HK5.out; omega⟩, ⟨by (with_reducible repeat (first | refine blk_drewN ?_ _ | refine blk_drew ?_ | refine blk_alloc ?_ _)); exact BK145.out⟩, ⟨by (with_reducible repeat (first | refine blk_drewN ?_ _ | refine blk_drew ?_ | refine blk_alloc ?_ _)); exact BK146.out⟩, ⟨by repeat (first | (with_reducible first | exact HB.out | apply below_alloc | apply pw_below_drewN | apply below_drew1 | refine below_set ?_ GE145.out | refine below_set ?_ GE146.out) | exact HB.out)⟩⟩
                                · rw [if_neg c34] at H
                                  have c34b0 : ((bt a0 x7_5) == 90) = false := beq_eq_false_iff_ne.mpr c34
                                  have c34b1 : ((bt a0 x7_5) != 90) = true := bne_iff_ne.mpr c34
                                  simp only [Option.some.injEq, Prod.mk.injEq] at H
                                  obtain ⟨rfl, rfl, rfl, rfl, rfl⟩ := H
                                  have p27 : 0 ≤ (x7_5 : Int) := of_decide_eq_true (by first | (with_reducible assumption) | assumption)
                                  have q27 : x7_5 < (a0.size : Int) := of_decide_eq_true (by first | (with_reducible assumption) | assumption)
                                  have hx27 := bt_at a0 x7_5
                                  replace p27 := eq_true p27
                                  replace q27 := eq_true q27
                                  have p29 : 0 ≤ (x7_5 : Int) := of_decide_eq_true (by first | (with_reducible assumption) | assumption)
                                  have q29 : x7_5 < (a0.size : Int) := of_decide_eq_true (by first | (with_reducible assumption) | assumption)
                                  have hx29 := bt_at a0 x7_5
                                  replace p29 := eq_true p29
                                  replace q29 := eq_true q29
                                  have p31 : 0 ≤ (x7_5 : Int) := of_decide_eq_true (by first | (with_reducible assumption) | assumption)
                                  have q31 : x7_5 < (a0.size : Int) := of_decide_eq_true (by first | (with_reducible assumption) | assumption)
                                  have hx31 := bt_at a0 x7_5
                                  replace p31 := eq_true p31
                                  replace q31 := eq_true q31
                                  have p33 : 0 ≤ (x7_5 : Int) := of_decide_eq_true (by first | (with_reducible assumption) | assumption)
                                  have q33 : x7_5 < (a0.size : Int) := of_decide_eq_true (by first | (with_reducible assumption) | assumption)
                                  have hx33 := bt_at a0 x7_5
                                  replace p33 := eq_true p33
                                  replace q33 := eq_true q33
                                  have hnb35 := NB145_146.out
                                  have hnc35 := NB146_145.out
                                  have hcz36_0 : wr.cell? ⟨gb145, 0, none⟩ = some (.int .i64 x146000_5) := (blk_cell BK145.out 0).trans rfl
                                  have hcz36_1 : wr.cell? ⟨gb145, 1, none⟩ = some (.int .u64 x146001_5) := (blk_cell BK145.out 1).trans rfl
                                  have hcz36_2 : wr.cell? ⟨gb145, 2, none⟩ = some (.int .u64 x146002_5) := (blk_cell BK145.out 2).trans rfl
                                  have hcz36_3 : wr.cell? ⟨gb145, 3, none⟩ = some (.int .i64 x146003_5) := (blk_cell BK145.out 3).trans rfl
                                  have hfz36_0 := blk_frozen BK145.out 0
                                  have hfz36_1 := blk_frozen BK145.out 1
                                  have hfz36_2 := blk_frozen BK145.out 2
                                  have hfz36_3 := blk_frozen BK145.out 3
                                  go_wp2
                                  refine bodyPost_ret (results_ct rfl _ _ gb145 26 #[.int .i64 0, .int .u64 0, .int .u64 0, .int .i64 0] (0, 0) _ rfl (by (with_reducible repeat (first | refine blk_drewN ?_ _ | refine blk_drew ?_ | refine blk_alloc ?_ _)); refine blk_put (cs := #[.int .i64 0, .int .u64 0, .int .u64 0, .int .i64 x146003_5]) ?_ 3 _ rfl; (with_reducible repeat (first | refine blk_drewN ?_ _ | refine blk_drew ?_ | refine blk_alloc ?_ _)); refine blk_put (cs := #[.int .i64 0, .int .u64 0, .int .u64 x146002_5, .int .i64 x146003_5]) ?_ 2 _ rfl; (with_reducible repeat (first | refine blk_drewN ?_ _ | refine blk_drew ?_ | refine blk_alloc ?_ _)); refine blk_put (cs := #[.int .i64 0, .int .u64 x146001_5, .int .u64 x146002_5, .int .i64 x146003_5]) ?_ 1 _ rfl; (with_reducible repeat (first | refine blk_drewN ?_ _ | refine blk_drew ?_ | refine blk_alloc ?_ _)); refine blk_put (cs := #[.int .i64 x146000_5, .int .u64 x146001_5, .int .u64 x146002_5, .int .i64 x146003_5]) ?_ 0 _ rfl; (with_reducible repeat (first | refine blk_drewN ?_ _ | refine blk_drew ?_ | refine blk_alloc ?_ _)); exact BK145.out) Tryd.underlying26 rfl (by kernel_rfl)) rfl ?_
                                  exact ⟨by first | rfl | (simp [errW_none, errW_some] <;> rfl) | (simp [*, errW_none, errW_some] <;> rfl), by repeat (first | (with_reducible first | exact HB.out | apply below_alloc | apply pw_below_drewN | apply below_drew1 | refine below_set ?_ GE145.out | refine below_set ?_ GE146.out) | exact HB.out)⟩
                        · rw [if_neg c26] at H
                          exact absurd H (by simp)
                      · rw [if_neg c25] at H
                        have c25b0 : decide (x7_5 < (a0.size : Int)) = false := decide_eq_false c25
                        clear c25
                        by_cases c37 : (wrap64 ((a0.size : Int) - x5_20)) > 64
                        · rw [if_pos c37] at H
                          have c37b0 : decide (64 < (wrap64 ((a0.size : Int) - x5_20))) = true := decide_eq_true c37
                          clear c37
                          simp only [Option.some.injEq, Prod.mk.injEq] at H
                          obtain ⟨rfl, rfl, rfl, rfl, rfl⟩ := H
                          have hnb38 := NB145_146.out
                          have hnc38 := NB146_145.out
                          have hcz39_0 : wr.cell? ⟨gb145, 0, none⟩ = some (.int .i64 x146000_5) := (blk_cell BK145.out 0).trans rfl
                          have hcz39_1 : wr.cell? ⟨gb145, 1, none⟩ = some (.int .u64 x146001_5) := (blk_cell BK145.out 1).trans rfl
                          have hcz39_2 : wr.cell? ⟨gb145, 2, none⟩ = some (.int .u64 x146002_5) := (blk_cell BK145.out 2).trans rfl
                          have hcz39_3 : wr.cell? ⟨gb145, 3, none⟩ = some (.int .i64 x146003_5) := (blk_cell BK145.out 3).trans rfl
                          have hfz39_0 := blk_frozen BK145.out 0
                          have hfz39_1 := blk_frozen BK145.out 1
                          have hfz39_2 := blk_frozen BK145.out 2
                          have hfz39_3 := blk_frozen BK145.out 3
                          go_wp2
                          refine bodyPost_ret (results_ct rfl _ _ gb145 26 #[.int .i64 0, .int .u64 0, .int .u64 0, .int .i64 0] (0, 0) _ rfl (by (with_reducible repeat (first | refine blk_drewN ?_ _ | refine blk_drew ?_ | refine blk_alloc ?_ _)); refine blk_put (cs := #[.int .i64 0, .int .u64 0, .int .u64 0, .int .i64 x146003_5]) ?_ 3 _ rfl; (with_reducible repeat (first | refine blk_drewN ?_ _ | refine blk_drew ?_ | refine blk_alloc ?_ _)); refine blk_put (cs := #[.int .i64 0, .int .u64 0, .int .u64 x146002_5, .int .i64 x146003_5]) ?_ 2 _ rfl; (with_reducible repeat (first | refine blk_drewN ?_ _ | refine blk_drew ?_ | refine blk_alloc ?_ _)); refine blk_put (cs := #[.int .i64 0, .int .u64 x146001_5, .int .u64 x146002_5, .int .i64 x146003_5]) ?_ 1 _ rfl; (with_reducible repeat (first | refine blk_drewN ?_ _ | refine blk_drew ?_ | refine blk_alloc ?_ _)); refine blk_put (cs := #[.int .i64 x146000_5, .int .u64 x146001_5, .int .u64 x146002_5, .int .i64 x146003_5]) ?_ 0 _ rfl; (with_reducible repeat (first | refine blk_drewN ?_ _ | refine blk_drew ?_ | refine blk_alloc ?_ _)); exact BK145.out) Tryd.underlying26 rfl (by kernel_rfl)) rfl ?_
                          exact ⟨by first | rfl | (simp [errW_none, errW_some] <;> rfl) | (simp [*, errW_none, errW_some] <;> rfl), by repeat (first | (with_reducible first | exact HB.out | apply below_alloc | apply pw_below_drewN | apply below_drew1 | refine below_set ?_ GE145.out | refine below_set ?_ GE146.out) | exact HB.out)⟩
                        · rw [if_neg c37] at H
                          have c37b0 : decide (64 < (wrap64 ((a0.size : Int) - x5_20))) = false := decide_eq_false c37
                          clear c37
                          have H' := Aside0.mk H
                          clear H
                          have hnb40 := NB146_145.out
                          have hnc40 := NB145_146.out
                          have hcz41_0 : wr.cell? ⟨gb146, 0, none⟩ = some (.int .i64 0) := (blk_cell BK146.out 0).trans rfl
                          have hcz41_1 : wr.cell? ⟨gb146, 1, none⟩ = some (.int .u64 0) := (blk_cell BK146.out 1).trans rfl
                          have hcz41_2 : wr.cell? ⟨gb146, 2, none⟩ = some (.int .u64 0) := (blk_cell BK146.out 2).trans rfl
                          have hcz41_3 : wr.cell? ⟨gb146, 3, none⟩ = some (.int .i64 x147003_20) := (blk_cell BK146.out 3).trans rfl
                          have hfz41_0 := blk_frozen BK146.out 0
                          have hfz41_1 := blk_frozen BK146.out 1
                          have hfz41_2 := blk_frozen BK146.out 2
                          have hfz41_3 := blk_frozen BK146.out 3
                          go_wp2
                          go_loopg [8] k5 (fun kq v8 w' => ∃ (x8_6 : Int) (x147000_6 : Int) (x147001_6 : Int) (x147002_6 : Int) (x147003_6 : Int), v8 = .int .i64 x8_6 ∧ Aside0 (cubitref07_Parse.l1 kq a0 x8_6 x147000_6 x147001_6 x147002_6 x147003_6 = some (r1, r2, r3, r4, r5)) ∧ Aside0 (kq ≤ k5) ∧ Aside0 (w'.heap[gb145]? = some (.cells #[.int .i64 x146000_5, .int .u64 x146001_5, .int .u64 x146002_5, .int .i64 x146003_5] 26 (0, 0))) ∧ Aside0 (w'.heap[gb146]? = some (.cells #[.int .i64 x147000_6, .int .u64 x147001_6, .int .u64 x147002_6, .int .i64 x147003_6] 26 (0, 0))) ∧ Aside0 (Below w.heap.size w w'))
                          case atStart => exact ⟨(x5_20), ((wrap64 ((a0.size : Int) - x5_20))), (0), (0), (x147003_20), (by first | rfl | (simp; done) | (simp [*]; done)), H', ⟨Nat.le_refl _⟩, ⟨by (with_reducible repeat (first | refine blk_drewN ?_ _ | refine blk_drew ?_ | refine blk_alloc ?_ _)); refine blk_far ?_ NB145_146.out _; (with_reducible repeat (first | refine blk_drewN ?_ _ | refine blk_drew ?_ | refine blk_alloc ?_ _)); exact BK145.out⟩, ⟨by (with_reducible repeat (first | refine blk_drewN ?_ _ | refine blk_drew ?_ | refine blk_alloc ?_ _)); refine blk_put (cs := #[.int .i64 0, .int .u64 0, .int .u64 0, .int .i64 x147003_20]) ?_ 0 _ rfl; (with_reducible repeat (first | refine blk_drewN ?_ _ | refine blk_drew ?_ | refine blk_alloc ?_ _)); exact BK146.out⟩, ⟨by repeat (first | (with_reducible first | exact HB.out | apply below_alloc | apply pw_below_drewN | apply below_drew1 | refine below_set ?_ GE145.out | refine below_set ?_ GE146.out) | exact HB.out)⟩⟩
                          case round =>
                            clear H'
                            try clear c1
                            try clear p1
                            try clear q1
                            try clear hx1
                            try clear qi1
                            try clear c2
                            try clear p2
                            try clear q2
                            try clear hx2
                            try clear c3
                            try clear p3
                            try clear q3
                            try clear hx3
                            try clear c4
                            try clear c5
                            try clear c5b0
                            try clear c5b1
                            try clear c6
                            try clear p6
                            try clear q6
                            try clear hx6
                            try clear qi6
                            try clear c7
                            try clear c7b0
                            try clear c7b1
                            try clear p8
                            try clear q8
                            try clear hx8
                            try clear qi8
                            try clear c10
                            try clear c11
                            try clear c11b0
                            try clear c12
                            try clear c12b0
                            try clear c12b1
                            try clear p13
                            try clear q13
                            try clear hx13
                            try clear qi13
                            try clear c14
                            try clear c14b0
                            try clear c14b1
                            try clear c15
                            try clear c18
                            try clear c18b0
                            try clear c19
                            try clear c19b0
                            try clear p20
                            try clear q20
                            try clear hx20
                            try clear c22
                            try clear c23
                            try clear c25
                            try clear c25b0
                            try clear c26
                            try clear c26b0
                            try clear p27
                            try clear q27
                            try clear hx27
                            try clear c28
                            try clear c28b0
                            try clear c28b1
                            try clear p29
                            try clear q29
                            try clear hx29
                            try clear c30
                            try clear c30b0
                            try clear c30b1
                            try clear p31
                            try clear q31
                            try clear hx31
                            try clear c32
                            try clear c32b0
                            try clear c32b1
                            try clear p33
                            try clear q33
                            try clear hx33
                            try clear c34
                            try clear c34b0
                            try clear c34b1
                            try clear c35
                            try clear c37
                            try clear c37b0
                            try clear c38
                            try clear c40
                            try clear hcz16_0
                            try clear hcz16_1
                            try clear hcz16_2
                            try clear hcz16_3
                            try clear hcz24_0
                            try clear hcz24_1
                            try clear hcz24_2
                            try clear hcz24_3
                            try clear hcz36_0
                            try clear hcz36_1
                            try clear hcz36_2
                            try clear hcz36_3
                            try clear hcz39_0
                            try clear hcz39_1
                            try clear hcz39_2
                            try clear hcz39_3
                            try clear hcz41_0
                            try clear hcz41_1
                            try clear hcz41_2
                            try clear hcz41_3
                            try clear hfz16_0
                            try clear hfz16_1
                            try clear hfz16_2
                            try clear hfz16_3
                            try clear hfz24_0
                            try clear hfz24_1
                            try clear hfz24_2
                            try clear hfz24_3
                            try clear hfz36_0
                            try clear hfz36_1
                            try clear hfz36_2
                            try clear hfz36_3
                            try clear hfz39_0
                            try clear hfz39_1
                            try clear hfz39_2
                            try clear hfz39_3
                            try clear hfz41_0
                            try clear hfz41_1
                            try clear hfz41_2
                            try clear hfz41_3
                            try clear p1
                            try clear p13
                            try clear p2
                            try clear p20
                            try clear p27
                            try clear p29
                            try clear p31
                            try clear p33
                            try clear p6
                            try clear p8
                            try clear q1
                            try clear q13
                            try clear q2
                            try clear q20
                            try clear q27
                            try clear q29
                            try clear q31
                            try clear q33
                            try clear q6
                            try clear q8
                            obtain ⟨x8_6, x147000_6, x147001_6, x147002_6, x147003_6, rfl, HA, HK6, BK145, BK146, HB⟩ := hrel
                            cases gk with
                            | zero => exact absurd HA.out (by simp [cubitref07_Parse.l1])
                            | succ k6 =>
                              have H := HA.out
                              clear HA
                              simp only [cubitref07_Parse.l1] at H
                              by_cases c42 : x8_6 < (a0.size : Int)
                              · rw [if_pos c42] at H
                                have c42b0 : decide (x8_6 < (a0.size : Int)) = true := decide_eq_true c42
                                clear c42
                                by_cases c43 : 0 ≤ x8_6
                                · rw [if_pos c43] at H
                                  have c43b0 : decide (0 ≤ x8_6) = true := decide_eq_true c43
                                  clear c43
                                  by_cases c45 : (bt a0 x8_6) = 73
                                  · rw [if_pos c45] at H
                                    have c45b0 : ((bt a0 x8_6) == 73) = true := beq_iff_eq.mpr c45
                                    have c45b1 : ((bt a0 x8_6) != 73) = false := bne_eq_false_iff_eq.mpr c45
                                    clear c45
                                    have H' := Aside0.mk H
                                    clear H
                                    have p44 : 0 ≤ (x8_6 : Int) := of_decide_eq_true (by first | (with_reducible assumption) | assumption)
                                    have q44 : x8_6 < (a0.size : Int) := of_decide_eq_true (by first | (with_reducible assumption) | assumption)
                                    have hx44 := bt_at a0 x8_6
                                    replace p44 := eq_true p44
                                    replace q44 := eq_true q44
                                    go_wp2
                                    go_roundg k6
                                    case measure => have := HJ1.out; have := HJ8.out; have := HJ16.out; have := HJ20.out; have := HK5.out; have := HK6.out; omega
                                    case rel => exact ⟨(wrap64 (x8_6 + 1)), (x147000_6), (x147001_6), (x147002_6), (x147003_6), (by first | rfl | (simp; done) | (simp [*]; done)), H', ⟨by have := HJ1.out; have := HJ8.out; have := HJ16.out; have := HJ20.out; have := HK5.out; have := HK6.out; omega⟩, ⟨by (with_reducible repeat (first | refine blk_drewN ?_ _ | refine blk_drew ?_ | refine blk_alloc ?_ _)); exact BK145.out⟩, ⟨by (with_reducible repeat (first | refine blk_drewN ?_ _ | refine blk_drew ?_ | refine blk_alloc ?_ _)); exact BK146.out⟩, ⟨by repeat (first | (with_reducible first | exact HB.out | apply below_alloc | apply pw_below_drewN | apply below_drew1 | refine below_set ?_ GE145.out | refine below_set ?_ GE146.out) | exact HB.out)⟩⟩
                                  · rw [if_neg c45] at H
                                    have c45b0 : ((bt a0 x8_6) == 73) = false := beq_eq_false_iff_ne.mpr c45
                                    have c45b1 : ((bt a0 x8_6) != 73) = true := bne_iff_ne.mpr c45
                                    replace H := Option.bind_eq_some_iff.mp H
                                    obtain ⟨⟨t147, t148, t149, t150⟩, A470, H⟩ := H
                                    replace H : (cubitref07_Parse.l1 k6 a0 (wrap64 (x8_6 + 1)) t147 t148 t149 t150) = some (r1, r2, r3, r4, r5) := H
                                    have A47 := Aside0.mk A470
                                    clear A470
                                    have H' := Aside0.mk H
                                    clear H
                                    have p44 : 0 ≤ (x8_6 : Int) := of_decide_eq_true (by first | (with_reducible assumption) | assumption)
                                    have q44 : x8_6 < (a0.size : Int) := of_decide_eq_true (by first | (with_reducible assumption) | assumption)
                                    have hx44 := bt_at a0 x8_6
                                    replace p44 := eq_true p44
                                    replace q44 := eq_true q44
                                    try go_wp2
                                    have n0_ := Aside0.mk (blk_drew BK145.out)
                                    have n1_ := Aside0.mk (blk_drew BK146.out)
                                    have n2_ := Aside0.mk (below_drew1 HB.out)
                                    clear BK145
                                    clear BK146
                                    clear HB
                                    have BK145 := n0_
                                    have BK146 := n1_
                                    have HB := n2_
                                    clear n0_ n1_ n2_
                                    have p46 : 0 ≤ (x8_6 : Int) := of_decide_eq_true (by first | (with_reducible assumption) | assumption)
                                    have q46 : x8_6 < (a0.size : Int) := of_decide_eq_true (by first | (with_reducible assumption) | assumption)
                                    have hx46 := bt_at a0 x8_6
                                    replace p46 := eq_true p46
                                    replace q46 := eq_true q46
                                    refine start_ (n := 14) (S := fun w' => w'.cell? ⟨gb146, 0, none⟩ = some (.int .i64 x147000_6) ∧ w'.cell? ⟨gb146, 1, none⟩ = some (.int .u64 x147001_6) ∧ w'.cell? ⟨gb146, 2, none⟩ = some (.int .u64 x147002_6) ∧ w'.cell? ⟨gb146, 3, none⟩ = some (.int .i64 x147003_6)) (ds := [13]) #[false, false, false, false, false, false, false, false, false, false, false, false, false, false] (by kernel_rfl) rfl rfl ⟨(blk_cell BK146.out 0).trans rfl, (blk_cell BK146.out 1).trans rfl, (blk_cell BK146.out 2).trans rfl, (blk_cell BK146.out 3).trans rfl⟩ (fun hHeld => ?_); refine with_tabW cubitref07_Parse.tab23 cubitref07_Parse.bits23 (fun HT_ HW_ => ?_)
                                    generalize wr.drew = w48 at BK145 BK146 HB hHeld ⊢
                                    refine pure_ (i := 1) (N := some 99) (v := ?_) (a' := ?_) #[false, true, false, false, false, false, false, false, false, false, false, false, false, false] rfl rfl (any_of HT_.out (by kernel_rfl)) (fun _ _ _ h => h) (Or.inl ⟨by rfl, ?_⟩) ?_ ?_
                                    rotate_left
                                    · intro w'
                                      go_simp
                                      with_reducible rfl
                                    rotate_left
                                    · simp only [Act.put, List.setIfInBounds_toArray, List.set_cons_zero, List.set_cons_succ, i64_w, i32_w]
                                      rfl
                                    refine pure_ (i := 2) (N := some 100) (v := ?_) (a' := ?_) #[false, true, true, false, false, false, false, false, false, false, false, false, false, false] rfl rfl (any_of HT_.out (by kernel_rfl)) (fun _ _ _ h => h) (Or.inl ⟨by rfl, ?_⟩) ?_ ?_
                                    rotate_left
                                    · intro w'
                                      go_simp
                                      with_reducible rfl
                                    rotate_left
                                    · simp only [Act.put, List.setIfInBounds_toArray, List.set_cons_zero, List.set_cons_succ, i64_w, i32_w]
                                      rfl
                                    refine pure_ (i := 3) (N := some 101) (v := ?_) (a' := ?_) #[false, true, true, true, false, false, false, false, false, false, false, false, false, false] rfl rfl (any_of HT_.out (by kernel_rfl)) (fun _ _ _ h => h) (Or.inl ⟨by rfl, ?_⟩) ?_ ?_
                                    rotate_left
                                    · intro w'
                                      go_simp
                                      with_reducible rfl
                                    rotate_left
                                    · simp only [Act.put, List.setIfInBounds_toArray, List.set_cons_zero, List.set_cons_succ, i64_w, i32_w]
                                      rfl
                                    refine pure_ (i := 4) (N := some 102) (v := ?_) (a' := ?_) #[false, true, true, true, true, false, false, false, false, false, false, false, false, false] rfl rfl (any_of HT_.out (by kernel_rfl)) (fun _ _ _ h => h) (Or.inl ⟨by rfl, ?_⟩) ?_ ?_
                                    rotate_left
                                    · intro w'
                                      go_simp
                                      with_reducible rfl
                                    rotate_left
                                    · simp only [Act.put, List.setIfInBounds_toArray, List.set_cons_zero, List.set_cons_succ, i64_w, i32_w]
                                      rfl
                                    refine pure_ (i := 5) (N := some 103) (v := ?_) (a' := ?_) #[false, true, true, true, true, true, false, false, false, false, false, false, false, false] rfl rfl (any_of HT_.out (by kernel_rfl)) (fun _ _ _ h => h) (Or.inl ⟨by rfl, ?_⟩) ?_ ?_
                                    rotate_left
                                    · intro w'
                                      go_simp
                                      with_reducible rfl
                                    rotate_left
                                    · simp only [Act.put, List.setIfInBounds_toArray, List.set_cons_zero, List.set_cons_succ, i64_w, i32_w]
                                      rfl
                                    refine pure_ (i := 6) (N := some 104) (v := ?_) (a' := ?_) #[false, true, true, true, true, true, true, false, false, false, false, false, false, false] rfl rfl (any_of HT_.out (by kernel_rfl)) (fun _ _ _ h => h) (Or.inl ⟨by rfl, ?_⟩) ?_ ?_
                                    rotate_left
                                    · intro w'
                                      go_simp
                                      with_reducible rfl
                                    rotate_left
                                    · simp only [Act.put, List.setIfInBounds_toArray, List.set_cons_zero, List.set_cons_succ, i64_w, i32_w]
                                      rfl
                                    refine pure_ (i := 7) (N := some 105) (v := ?_) (a' := ?_) #[false, true, true, true, true, true, true, true, false, false, false, false, false, false] rfl rfl (any_of HT_.out (by kernel_rfl)) (fun _ _ _ h => h) (Or.inl ⟨by rfl, ?_⟩) ?_ ?_
                                    rotate_left
                                    · intro w'
                                      go_simp
                                      with_reducible rfl
                                    rotate_left
                                    · simp only [Act.put, List.setIfInBounds_toArray, List.set_cons_zero, List.set_cons_succ, i64_w, i32_w]
                                      rfl
                                    refine take_ (i := 0) (N := some 98) (v := ?_) (a' := ?_) #[true, true, true, true, true, true, true, true, false, false, false, false, false, false] rfl rfl (take_ofW HT_.out HW_.out (by kernel_rfl)) (fun _ _ _ h => h) (Or.inl ⟨by rfl, ?_⟩) hHeld ?_ ?_
                                    rotate_left
                                    · rintro w' ⟨s0, s1, s2, s3⟩
                                      go_simp
                                      with_reducible rfl
                                    rotate_left
                                    · simp only [Act.put, List.setIfInBounds_toArray, List.set_cons_zero, List.set_cons_succ, i64_w, i32_w]
                                      rfl
                                    refine take_ (i := 8) (N := some 106) (v := ?_) (a' := ?_) #[true, true, true, true, true, true, true, true, true, false, false, false, false, false] rfl rfl (take_ofW HT_.out HW_.out (by kernel_rfl)) (fun _ _ _ h => h) (Or.inl ⟨by rfl, ?_⟩) hHeld ?_ ?_
                                    rotate_left
                                    · rintro w' ⟨s0, s1, s2, s3⟩
                                      go_simp
                                      with_reducible rfl
                                    rotate_left
                                    · simp only [Act.put, List.setIfInBounds_toArray, List.set_cons_zero, List.set_cons_succ, i64_w, i32_w]
                                      rfl
                                    refine pure_ (i := 9) (N := some 107) (v := ?_) (a' := ?_) #[true, true, true, true, true, true, true, true, true, true, false, false, false, false] rfl rfl (any_of HT_.out (by kernel_rfl)) (fun _ _ _ h => h) (Or.inl ⟨by rfl, ?_⟩) ?_ ?_
                                    rotate_left
                                    · intro w'
                                      go_simp
                                      with_reducible rfl
                                    rotate_left
                                    · simp only [Act.put, List.setIfInBounds_toArray, List.set_cons_zero, List.set_cons_succ, i64_w, i32_w]
                                      rfl
                                    refine pure_ (i := 10) (N := some 108) (v := ?_) (a' := ?_) #[true, true, true, true, true, true, true, true, true, true, true, false, false, false] rfl rfl (any_of HT_.out (by kernel_rfl)) (fun _ _ _ h => h) (Or.inl ⟨by rfl, ?_⟩) ?_ ?_
                                    rotate_left
                                    · intro w'
                                      go_simp
                                      with_reducible rfl
                                    rotate_left
                                    · simp only [Act.put, List.setIfInBounds_toArray, List.set_cons_zero, List.set_cons_succ, i64_w, i32_w]
                                      rfl
                                    refine pure_ (i := 11) (N := some 109) (v := ?_) (a' := ?_) #[true, true, true, true, true, true, true, true, true, true, true, true, false, false] rfl rfl (any_of HT_.out (by kernel_rfl)) (fun _ _ _ h => h) (Or.inl ⟨by rfl, ?_⟩) ?_ ?_
                                    rotate_left
                                    · intro w'
                                      go_simp
                                      with_reducible rfl
                                    rotate_left
                                    · simp only [Act.put, List.setIfInBounds_toArray, List.set_cons_zero, List.set_cons_succ, i64_w, i32_w]
                                      rfl
                                    refine one_ (i := 12) (N := some 110) #[true, true, true, true, true, true, true, true, true, true, true, true, true, false] rfl rfl (one_of HT_.out (by kernel_rfl)) (by decide) (fun K hK => ?_)
                                    refine goes_ Tryd.func13 (by kernel_rfl) rfl #[.agg #[.int .i64 x147000_6, .int .u64 x147001_6, .int .u64 x147002_6, .int .i64 x147003_6], .int .i64 (wrap64 ((wrap64 ((a0.size : Int) - 1)) - x8_6)), .int .i64 (wrap64 ((wrap64 ((wrap64 (bt a0 x8_6)) - 88)) + 1))] (by rfl) rfl rfl (by (try simp only [List.map_toArray, List.map_cons, List.map_nil]); first | done | rfl | (simp only [List.length_drop, List.length_take]; rfl)) ?_
                                    with_reducible refine (cubitref07_set.calls k6 x147000_6 x147001_6 x147002_6 x147003_6 (wrap64 ((wrap64 ((a0.size : Int) - 1)) - x8_6)) (wrap64 ((wrap64 ((wrap64 (bt a0 x8_6)) - 88)) + 1)) t147 t148 t149 t150 _ A47.out).mono ?_
                                    rintro e w49 ⟨rfl, hb⟩
                                    refine ⟨_, rfl, ?_⟩
                                    have n0_ := Aside0.mk (blk_below (g := gb145) (o := .cells #[.int .i64 x146000_5, .int .u64 x146001_5, .int .u64 x146002_5, .int .i64 x146003_5] 26 (0, 0)) (by (with_reducible repeat (first | refine blk_drewN ?_ _ | refine blk_drew ?_ | refine blk_alloc ?_ _)); exact BK145.out) hb)
                                    have n1_ := Aside0.mk (blk_below (g := gb146) (o := .cells #[.int .i64 x147000_6, .int .u64 x147001_6, .int .u64 x147002_6, .int .i64 x147003_6] 26 (0, 0)) (by (with_reducible repeat (first | refine blk_drewN ?_ _ | refine blk_drew ?_ | refine blk_alloc ?_ _)); exact BK146.out) hb)
                                    have n2_ := Aside0.mk (below_step (by repeat (first | (with_reducible first | exact HB.out | apply below_alloc | apply pw_below_drewN | apply below_drew1 | refine below_set ?_ GE145.out | refine below_set ?_ GE146.out) | exact HB.out)) hb)
                                    clear BK145
                                    clear BK146
                                    clear HB
                                    have BK145 := n0_
                                    have BK146 := n1_
                                    have HB := n2_
                                    clear n0_ n1_ n2_
                                    (try clear hb)
                                    (try clear hb2)
                                    (try clear hk)
                                    (try clear hi)
                                    refine hK.out _ _ ⟨(blk_cell BK146.out 0).trans rfl, (blk_cell BK146.out 1).trans rfl, (blk_cell BK146.out 2).trans rfl, (blk_cell BK146.out 3).trans rfl⟩ (fun hHeld => ?_)
                                    clear hK K
                                    refine norm_ (a' := ?_) ?_ ?_
                                    rotate_left
                                    · show Act.put _ (some 110) _ = _
                                      simp only [Act.put, List.setIfInBounds_toArray, List.set_cons_zero, List.set_cons_succ, i64_w, i32_w]
                                      rfl
                                    refine last_ (i := 13) (N := none) #[true, true, true, true, true, true, true, true, true, true, true, true, true, true] rfl rfl (one_of HT_.out (by kernel_rfl)) (by decide) (fun K hK => ?_)
                                    have hs50 : w49.cell? ⟨gb146, 0, none⟩ = some (.int .i64 x147000_6) := (blk_cell BK146.out 0).trans rfl
                                    have hfs50 := blk_frozen BK146.out 0
                                    have hns50_0 := NB145_146.out
                                    have hms50_0 := NB146_145.out
                                    have hs51 : w49.cell? ⟨gb146, 1, none⟩ = some (.int .u64 x147001_6) := (blk_cell BK146.out 1).trans rfl
                                    have hfs51 := blk_frozen BK146.out 1
                                    have hns51_0 := NB145_146.out
                                    have hms51_0 := NB146_145.out
                                    have hs52 : w49.cell? ⟨gb146, 2, none⟩ = some (.int .u64 x147002_6) := (blk_cell BK146.out 2).trans rfl
                                    have hfs52 := blk_frozen BK146.out 2
                                    have hns52_0 := NB145_146.out
                                    have hms52_0 := NB146_145.out
                                    have hs53 : w49.cell? ⟨gb146, 3, none⟩ = some (.int .i64 x147003_6) := (blk_cell BK146.out 3).trans rfl
                                    have hfs53 := blk_frozen BK146.out 3
                                    have hns53_0 := NB145_146.out
                                    have hms53_0 := NB146_145.out
                                    refine skip_ (w1 := ?_) (by rfl) rfl ?_ ?_
                                    rotate_left
                                    · go_simp
                                      rfl
                                    refine hK.out _ _ ?_
                                    clear hK K
                                    refine done_ (done_of HT_.out (by kernel_rfl)) ?_
                                    try go_wp2
                                    go_roundg k6
                                    case measure => have := HJ1.out; have := HJ8.out; have := HJ16.out; have := HJ20.out; have := HK5.out; have := HK6.out; omega
                                    case rel => exact ⟨(wrap64 (x8_6 + 1)), (t147), (t148), (t149), (t150), (by first | rfl | (simp; done) | (simp [*]; done)), H', ⟨by have := HJ1.out; have := HJ8.out; have := HJ16.out; have := HJ20.out; have := HK5.out; have := HK6.out; omega⟩, ⟨by (with_reducible repeat (first | refine blk_drewN ?_ _ | refine blk_drew ?_ | refine blk_alloc ?_ _)); refine blk_far ?_ NB145_146.out _; (with_reducible repeat (first | refine blk_drewN ?_ _ | refine blk_drew ?_ | refine blk_alloc ?_ _)); refine blk_far ?_ NB145_146.out _; (with_reducible repeat (first | refine blk_drewN ?_ _ | refine blk_drew ?_ | refine blk_alloc ?_ _)); refine blk_far ?_ NB145_146.out _; (with_reducible repeat (first | refine blk_drewN ?_ _ | refine blk_drew ?_ | refine blk_alloc ?_ _)); refine blk_far ?_ NB145_146.out _; (with_reducible repeat (first | refine blk_drewN ?_ _ | refine blk_drew ?_ | refine blk_alloc ?_ _)); exact BK145.out⟩, ⟨by (with_reducible repeat (first | refine blk_drewN ?_ _ | refine blk_drew ?_ | refine blk_alloc ?_ _)); refine blk_put (cs := #[.int .i64 t147, .int .u64 t148, .int .u64 t149, .int .i64 x147003_6]) ?_ 3 _ rfl; (with_reducible repeat (first | refine blk_drewN ?_ _ | refine blk_drew ?_ | refine blk_alloc ?_ _)); refine blk_put (cs := #[.int .i64 t147, .int .u64 t148, .int .u64 x147002_6, .int .i64 x147003_6]) ?_ 2 _ rfl; (with_reducible repeat (first | refine blk_drewN ?_ _ | refine blk_drew ?_ | refine blk_alloc ?_ _)); refine blk_put (cs := #[.int .i64 t147, .int .u64 x147001_6, .int .u64 x147002_6, .int .i64 x147003_6]) ?_ 1 _ rfl; (with_reducible repeat (first | refine blk_drewN ?_ _ | refine blk_drew ?_ | refine blk_alloc ?_ _)); refine blk_put (cs := #[.int .i64 x147000_6, .int .u64 x147001_6, .int .u64 x147002_6, .int .i64 x147003_6]) ?_ 0 _ rfl; (with_reducible repeat (first | refine blk_drewN ?_ _ | refine blk_drew ?_ | refine blk_alloc ?_ _)); exact BK146.out⟩, ⟨by repeat (first | (with_reducible first | exact HB.out | apply below_alloc | apply pw_below_drewN | apply below_drew1 | refine below_set ?_ GE145.out | refine below_set ?_ GE146.out) | exact HB.out)⟩⟩
                                · rw [if_neg c43] at H
                                  exact absurd H (by simp)
                              · rw [if_neg c42] at H
                                have c42b0 : decide (x8_6 < (a0.size : Int)) = false := decide_eq_false c42
                                clear c42
                                simp only [Option.some.injEq, Prod.mk.injEq] at H
                                obtain ⟨rfl, rfl, rfl, rfl, rfl⟩ := H
                                have hnb54 := NB146_145.out
                                have hnc54 := NB145_146.out
                                have hcz55_0 : wr.cell? ⟨gb146, 0, none⟩ = some (.int .i64 x147000_6) := (blk_cell BK146.out 0).trans rfl
                                have hcz55_1 : wr.cell? ⟨gb146, 1, none⟩ = some (.int .u64 x147001_6) := (blk_cell BK146.out 1).trans rfl
                                have hcz55_2 : wr.cell? ⟨gb146, 2, none⟩ = some (.int .u64 x147002_6) := (blk_cell BK146.out 2).trans rfl
                                have hcz55_3 : wr.cell? ⟨gb146, 3, none⟩ = some (.int .i64 x147003_6) := (blk_cell BK146.out 3).trans rfl
                                have hfz55_0 := blk_frozen BK146.out 0
                                have hfz55_1 := blk_frozen BK146.out 1
                                have hfz55_2 := blk_frozen BK146.out 2
                                have hfz55_3 := blk_frozen BK146.out 3
                                have hcz56_0 : wr.cell? ⟨gb145, 0, none⟩ = some (.int .i64 x146000_5) := (blk_cell BK145.out 0).trans rfl
                                have hcz56_1 : wr.cell? ⟨gb145, 1, none⟩ = some (.int .u64 x146001_5) := (blk_cell BK145.out 1).trans rfl
                                have hcz56_2 : wr.cell? ⟨gb145, 2, none⟩ = some (.int .u64 x146002_5) := (blk_cell BK145.out 2).trans rfl
                                have hcz56_3 : wr.cell? ⟨gb145, 3, none⟩ = some (.int .i64 x146003_5) := (blk_cell BK145.out 3).trans rfl
                                have hfz56_0 := blk_frozen BK145.out 0
                                have hfz56_1 := blk_frozen BK145.out 1
                                have hfz56_2 := blk_frozen BK145.out 2
                                have hfz56_3 := blk_frozen BK145.out 3
                                go_wp2
                                refine bodyPost_ret (results_ct rfl _ _ gb145 26 #[.int .i64 x147000_6, .int .u64 x147001_6, .int .u64 x147002_6, .int .i64 x147003_6] (0, 0) _ rfl (by (with_reducible repeat (first | refine blk_drewN ?_ _ | refine blk_drew ?_ | refine blk_alloc ?_ _)); refine blk_put (cs := #[.int .i64 x147000_6, .int .u64 x147001_6, .int .u64 x147002_6, .int .i64 x146003_5]) ?_ 3 _ rfl; (with_reducible repeat (first | refine blk_drewN ?_ _ | refine blk_drew ?_ | refine blk_alloc ?_ _)); refine blk_put (cs := #[.int .i64 x147000_6, .int .u64 x147001_6, .int .u64 x146002_5, .int .i64 x146003_5]) ?_ 2 _ rfl; (with_reducible repeat (first | refine blk_drewN ?_ _ | refine blk_drew ?_ | refine blk_alloc ?_ _)); refine blk_put (cs := #[.int .i64 x147000_6, .int .u64 x146001_5, .int .u64 x146002_5, .int .i64 x146003_5]) ?_ 1 _ rfl; (with_reducible repeat (first | refine blk_drewN ?_ _ | refine blk_drew ?_ | refine blk_alloc ?_ _)); refine blk_put (cs := #[.int .i64 x146000_5, .int .u64 x146001_5, .int .u64 x146002_5, .int .i64 x146003_5]) ?_ 0 _ rfl; (with_reducible repeat (first | refine blk_drewN ?_ _ | refine blk_drew ?_ | refine blk_alloc ?_ _)); exact BK145.out) Tryd.underlying26 rfl (by kernel_rfl)) rfl ?_
                                exact ⟨by first | rfl | (simp [errW_none, errW_some] <;> rfl) | (simp [*, errW_none, errW_some] <;> rfl), by repeat (first | (with_reducible first | exact HB.out | apply below_alloc | apply pw_below_drewN | apply below_drew1 | refine below_set ?_ GE145.out | refine below_set ?_ GE146.out) | exact HB.out)⟩

end Go.Proofs.YtechbhjdgfcgoaaDoor.PA
