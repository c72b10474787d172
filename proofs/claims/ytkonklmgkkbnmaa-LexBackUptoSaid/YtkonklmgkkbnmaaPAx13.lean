/- Printed for this claim by a program of the session: contracts of Go functions: a call answers what its Lean function tells, wherever that tells something. -/
import Derived.Test.YtkonklmgkkbnmaaPAx0
import Derived.Test.YtkonklmgkkbnmaaPAx3
import Derived.Test.YtkonklmgkkbnmaaPAx6
import Derived.Test.YtkonklmgkkbnmaaPAx10
import Derived.Test.YtkonklmgkkbnmaaPAx12
import Derived.Test.YtkonklmgkkbnmaaGJoin
namespace Go.Proofs.Ytkonklmgkkbnmaa.PA
open Go.RowKit Go.Proofs.YtkonklmgkkbnmaaW.PrintWords Go.Proofs.YtkonklmgkkbnmaaW.PrintLast Go.Proofs.YtkonklmgkkbnmaaW.PrintMore
attribute [local go_sem] max2_int min2_int max_two min_two max_three min_three max_four min_four   -- for this text's walks alone
set_option linter.unusedVariables false
set_option linter.unusedSimpArgs false

/-! ### lex_Join: function 14 -/
def lex_Join.l0 : Nat → Int → List ByteArray → List (S31) → Int → Int → Option (ByteArray × Int)
  | 0, _, _, _, _, _ => none
  | k + 1, x4, x5, x15, x16, x17 => if x17 < x16 then (if 0 ≤ x17 then (if x17 < (x15.length : Int) then ((lex_right.f k ((rd_T31 x15 x17).f0) ((rd_T31 x15 x17).f1) ((rd_T31 x15 x17).f2)).bind fun t255 => (if t255 = true then (if x5.length < 8796093022208 then (lex_Join.l0 k (wrap64 (x4 + (((rd_T31 x15 x17).f1).size : Int))) (x5 ++ [(rd_T31 x15 x17).f1]) x15 x16 (wrap64 (x17 + 1))) else (none)) else (some ((⟨#[]⟩ : ByteArray), 90)))) else (none)) else (none)) else (if x4 > 65536 then (some ((⟨#[]⟩ : ByteArray), 1)) else ((strings_Join.f x5 (⟨#[32]⟩ : ByteArray)).bind fun t259 => (some (t259, 0))))
def lex_Join.f (k : Nat) (l0 : List (S31)) : Option (ByteArray × Int) := if 0 ≤ (l0.length : Int) then (if ((l0.length : Int) : Int).toNat ≤ 17592186044416 then (lex_Join.l0 k (mx (wrap64 ((l0.length : Int) - 1)) 0) (([] : List ByteArray)) l0 (l0.length : Int) 0) else (none)) else (none)
theorem lex_Join.mono_l : ∀ k, (∀ y0 y1 y2 y3 y4, LeO (lex_Join.l0 k y0 y1 y2 y3 y4) (lex_Join.l0 (k + 1) y0 y1 y2 y3 y4))
  | 0 => fun _ _ _ _ _ r h => by simp [lex_Join.l0] at h
  | k + 1 => by
    have ih0 := lex_Join.mono_l k
    · intro y0 y1 y2 y3 y4
      unfold lex_Join.l0
      repeat' first
      | (with_reducible exact ih0 _ _ _ _ _)
      | (with_reducible exact lex_right.mono _ _ _ _)
      | (with_reducible exact LeO.refl _)
      | (with_reducible exact LeO.none _)
      | (with_reducible refine LeO.ite ?_ ?_)
      | (with_reducible refine LeO.bind ?_ (fun _ => ?_))
      | exact ih0 _ _ _ _ _
      | exact lex_right.mono _ _ _ _
      | exact LeO.none _
      | refine LeO.ite ?_ ?_
      | refine LeO.bind ?_ (fun _ => ?_)
theorem lex_Join.mono : ∀ a0 k, LeO (lex_Join.f k a0) (lex_Join.f (k + 1) a0) := by
  intro a0 k
  have ih0 := lex_Join.mono_l k
  unfold lex_Join.f
  repeat' first
      | (with_reducible exact ih0 _ _ _ _ _)
      | (with_reducible exact lex_right.mono _ _ _ _)
      | (with_reducible exact LeO.refl _)
      | (with_reducible exact LeO.none _)
      | (with_reducible refine LeO.ite ?_ ?_)
      | (with_reducible refine LeO.bind ?_ (fun _ => ?_))
      | exact ih0 _ _ _ _ _
      | exact lex_right.mono _ _ _ _
      | exact LeO.none _
      | refine LeO.ite ?_ ?_
      | refine LeO.bind ?_ (fun _ => ?_)
set_option maxHeartbeats 8000000 in
set_option maxRecDepth 100000 in
theorem lex_Join.calls (k : Nat) (A0 : Option Addr) (c0 : Nat) (l0 : List (S31)) (r1 : ByteArray) (r2 : Int) (w : World) (hr0 : Kd.C k31 w A0 l0.length l0) (hc0 : l0.length ≤ c0) (h : lex_Join.f k l0 = some (r1, r2)) :
    Calls Try.prog 14 #[.slice A0 l0.length c0] w fun e w' => e = .returned (.tuple #[.string r1, .int .i64 r2]) ∧ Below w.heap.size w w' := by
  have hu31 := Try.underlying31
  have HR0 := Aside0.mk hr0
  have HC0 := Aside0.mk hc0
  clear hr0 hc0
  have HB := Aside0.mk (Below.refl w.heap.size w)
  have H : (if 0 ≤ (l0.length : Int) then (if ((l0.length : Int) : Int).toNat ≤ 17592186044416 then (lex_Join.l0 k (mx (wrap64 ((l0.length : Int) - 1)) 0) (([] : List ByteArray)) l0 (l0.length : Int) 0) else (none)) else (none)) = some (r1, r2) := h
  clear h
  obtain ⟨ji2, hji2⟩ : ∃ j_ : Int, (mx (wrap64 ((l0.length : Int) - 1)) 0) = j_ := ⟨_, rfl⟩
  replace H : (if 0 ≤ (l0.length : Int) then (if ((l0.length : Int) : Int).toNat ≤ 17592186044416 then (lex_Join.l0 k ji2 (([] : List ByteArray)) l0 (l0.length : Int) 0) else (none)) else (none)) = some (r1, r2) := by first | (rw [hji2] at H; exact H) | (simp only [hji2] at H ⊢; exact H)
  (try (have hji2l : 0 ≤ ji2 := by (rw [← hji2]; unfold mx; (repeat' split) <;> omega)))
  (try (have hji2m : 0 ≤ ji2 := by omega))
  have hji2_ : (if (wrap64 ((l0.length : Int) - 1)) < 0 then 0 else (wrap64 ((l0.length : Int) - 1))) = ji2 := hji2
  by_cases c3 : 0 ≤ (l0.length : Int)
  · rw [if_pos c3] at H
    have c3b0 := eq_true c3
    have c3b1 : decide (0 ≤ (l0.length : Int)) = true := decide_eq_true c3
    clear c3
    by_cases c4 : ((l0.length : Int) : Int).toNat ≤ 17592186044416
    · rw [if_pos c4] at H
      have c4b0 := eq_true c4
      have c4b1 : decide (((l0.length : Int) : Int).toNat ≤ 17592186044416) = true := decide_eq_true c4
      clear c4
      obtain ⟨y250, hy250⟩ : ∃ y_ : List ByteArray, y_ = (([] : List ByteArray)) := ⟨_, rfl⟩
      replace H : (lex_Join.l0 k ji2 y250 l0 (l0.length : Int) 0) = some (r1, r2) := by first | (rw [hy250]; with_reducible exact H) | (have H2_ := (Option.bind_some _ _).symm.trans H; rw [hy250]; with_reducible exact H2_) | (have H2_ := (Option.bind_some _ _).symm.trans H; with_reducible exact H2_) | with_reducible exact H | (rw [hy250]; exact H) | exact H
      have Ny250 := Aside0.mk hy250
      clear hy250
      have H' := Aside0.mk H
      clear H
      go_enter Try.func14, Try.ntmps14
      go_wp2_with (first | ((with_reducible refine gate_dst (N := 14) rfl ?_); refine Kd.R_makecap Kd.string _ 9 rfl (N := 14) rfl 45 _ _ rfl (l0.length : Int) rfl rfl Try.underlying45 (.string ⟨#[]⟩) 16 info9 rfl (by decide) (by omega) (⟨#[]⟩ : ByteArray) (ok := fun _ => True) (okp := fun _ => True) rfl (fun _ hk => hk) trivial (of_decide_eq_true (by first | (with_reducible assumption) | assumption)) (Nat.le_trans (Nat.mul_le_mul_right _ (of_decide_eq_true (by first | (with_reducible assumption) | assumption) : (l0.length : Int).toNat ≤ 17592186044416)) (by omega)) (Below.refl _ _) (Nat.le_refl _) ?_; intro v251 w5 ho6 hb hg_ hnew_; clear hg_ hnew_; (first | rw [← Ny250.out] at ho6 | (simp only [Int.reduceToNat] at ho6; rw [← Ny250.out] at ho6)); have n0_ := Aside0.mk (Kd.R_lower ho6 (below_size (by repeat (first | (with_reducible first | exact HB.out | apply below_alloc | apply pw_below_drewN | apply below_drew1) | exact HB.out)))); have n1_ := Aside0.mk (below_step (by repeat (first | (with_reducible first | exact HB.out | apply below_alloc | apply pw_below_drewN | apply below_drew1) | exact HB.out)) hb); clear HB; have HO252 := n0_; have HB := n1_; clear n0_ n1_; clear hb ho6))
      go_loopg [4, 5, 17] k (fun kq v4 v5 v17 w' => ∃ (x4_1 : Int) (x5_1 : List ByteArray) (x17_1 : Int), v4 = .int .i64 x4_1 ∧ v17 = .int .i64 x17_1 ∧ Aside0 (lex_Join.l0 kq x4_1 x5_1 l0 (l0.length : Int) x17_1 = some (r1, r2)) ∧ Aside0 (kq ≤ k) ∧ Aside0 (Kd.R Kd.string 9 w' w.heap.size (fun _ => True) v5 x5_1) ∧ Aside0 (Below w.heap.size w w'))
      case atStart => exact ⟨(ji2), (y250), (0), (by first | rfl | (simp; done) | (simp only [← hji2] <;> (first | rfl | simp)) | (simp [*]; done)), (by first | rfl | (simp; done) | (simp [*]; done)), H', ⟨Nat.le_refl _⟩, ⟨by (with_reducible repeat (first | apply Kd.R_alloc | apply Kd.R_drewN | apply Kd.R_drew)); exact HO252.out⟩, ⟨by repeat (first | (with_reducible first | exact HB.out | apply below_alloc | apply pw_below_drewN | apply below_drew1) | exact HB.out)⟩⟩
      case round =>
        clear H'
        try clear c1
        try clear p2
        try clear c3
        try clear c3b0
        try clear c3b1
        try clear c4
        try clear c4b0
        try clear c4b1
        try clear p6
        obtain ⟨x4_1, x5_1, x17_1, rfl, rfl, HA, HK1, HO_5, HB⟩ := hrel
        cases gk with
        | zero => exact absurd HA.out (by simp [lex_Join.l0])
        | succ k1 =>
          have H := HA.out
          clear HA
          simp only [lex_Join.l0] at H
          by_cases c7 : x17_1 < (l0.length : Int)
          · rw [if_pos c7] at H
            have c7b0 : decide (x17_1 < (l0.length : Int)) = true := decide_eq_true c7
            clear c7
            by_cases c8 : 0 ≤ x17_1
            · rw [if_pos c8] at H
              have c8b0 : decide (0 ≤ x17_1) = true := decide_eq_true c8
              clear c8
              by_cases c9 : x17_1 < (l0.length : Int)
              · rw [if_pos c9] at H
                have c9b0 : decide (x17_1 < (l0.length : Int)) = true := decide_eq_true c9
                clear c9
                replace H := Option.bind_eq_some_iff.mp H
                obtain ⟨t255, A100, H⟩ := H
                replace H : (if t255 = true then (if x5_1.length < 8796093022208 then (lex_Join.l0 k1 (wrap64 (x4_1 + (((rd_T31 l0 x17_1).f1).size : Int))) (x5_1 ++ [(rd_T31 l0 x17_1).f1]) l0 (l0.length : Int) (wrap64 (x17_1 + 1))) else (none)) else (some ((⟨#[]⟩ : ByteArray), 90))) = some (r1, r2) := H
                have A10 := Aside0.mk A100
                clear A100
                by_cases c11 : t255 = true
                · subst c11
                  have H1 : (if x5_1.length < 8796093022208 then (lex_Join.l0 k1 (wrap64 (x4_1 + (((rd_T31 l0 x17_1).f1).size : Int))) (x5_1 ++ [(rd_T31 l0 x17_1).f1]) l0 (l0.length : Int) (wrap64 (x17_1 + 1))) else (none)) = some (r1, r2) := by rw [if_pos rfl] at H; exact H
                  clear H
                  have H := H1
                  clear H1
                  by_cases c12 : x5_1.length < 8796093022208
                  · rw [if_pos c12] at H
                    have LMc12 := Aside0.mk c12
                    clear c12
                    obtain ⟨y256, hy256⟩ : ∃ y_ : List ByteArray, y_ = (x5_1 ++ [(rd_T31 l0 x17_1).f1]) := ⟨_, rfl⟩
                    replace H : (lex_Join.l0 k1 (wrap64 (x4_1 + (((rd_T31 l0 x17_1).f1).size : Int))) y256 l0 (l0.length : Int) (wrap64 (x17_1 + 1))) = some (r1, r2) := by first | (rw [hy256]; with_reducible exact H) | (have H2_ := (Option.bind_some _ _).symm.trans H; rw [hy256]; with_reducible exact H2_) | (have H2_ := (Option.bind_some _ _).symm.trans H; with_reducible exact H2_) | with_reducible exact H | (rw [hy256]; exact H) | exact H
                    have Ny256 := Aside0.mk hy256
                    clear hy256
                    have H' := Aside0.mk H
                    clear H
                    have p253 : 0 ≤ (x17_1 : Int) := of_decide_eq_true (by first | (with_reducible assumption) | assumption)
                    have q253 : x17_1 < (l0.length : Int) := of_decide_eq_true (by first | (with_reducible assumption) | assumption)
                    obtain ⟨ad253, e253, hx253_0, hx253_1, hx253_2⟩ := at_T31 HR0.out x17_1 p253 q253
                    cases e253
                    replace hx253_0 := (HB.out.cell (World.block_lt_of_cell? w _ hx253_0)).trans hx253_0
                    replace hx253_1 := (HB.out.cell (World.block_lt_of_cell? w _ hx253_1)).trans hx253_1
                    replace hx253_2 := (HB.out.cell (World.block_lt_of_cell? w _ hx253_2)).trans hx253_2
                    replace p253 := eq_true p253
                    replace q253 := eq_true q253
                    go_wp2_with (first | ((with_reducible refine gate_dst (N := 7) rfl ?_); refine box_event ?hg (N := 7) ?hd (cs := #[.int .i64 0, .string (⟨#[]⟩ : ByteArray), .int .i64 0]) (t := 31) ?hr ?_; (case hd => rfl); (case hg => rfl); (case hr => first | (go_simp; done) | (go_simp; rfl)); intro gb254 hg w13 hbox hb; have n0_ := Aside0.mk (Kd.R_below (by (with_reducible repeat (first | apply Kd.R_alloc | apply Kd.R_drewN | apply Kd.R_drew)); exact HO_5.out) hb); have n1_ := Aside0.mk (below_step (by repeat (first | (with_reducible first | exact HB.out | apply below_alloc | apply pw_below_drewN | apply below_drew1) | exact HB.out)) hb); have n2_ := Aside0.mk (hbox); have n3_ := Aside0.mk ((by rw [hg]; exact (below_size (by repeat (first | (with_reducible first | exact HB.out | apply below_alloc | apply pw_below_drewN | apply below_drew1) | exact HB.out))) : w.heap.size ≤ gb254)); have n4_ := Aside0.mk ((by rw [hg]; exact (below_size (by repeat (first | (with_reducible first | exact HB.out | apply below_alloc | apply pw_below_drewN | apply below_drew1) | exact HB.out))) : w.heap.size ≤ gb254)); clear HO_5; clear HB; have HO_5 := n0_; have HB := n1_; have BK254 := n2_; have GW254 := n3_; have GE254 := n4_; clear n0_ n1_ n2_ n3_ n4_; clear hb hbox hg; have hcz14_0 : w13.cell? ⟨gb254, 0, none⟩ = some (.int .i64 0) := (blk_cell BK254.out 0).trans rfl; have hcz14_1 : w13.cell? ⟨gb254, 1, none⟩ = some (.string (⟨#[]⟩ : ByteArray)) := (blk_cell BK254.out 1).trans rfl; have hcz14_2 : w13.cell? ⟨gb254, 2, none⟩ = some (.int .i64 0) := (blk_cell BK254.out 2).trans rfl; have hfz14_0 := blk_frozen BK254.out 0; have hfz14_1 := blk_frozen BK254.out 1; have hfz14_2 := blk_frozen BK254.out 2) | ((with_reducible refine gate_callee (f := 28) rfl ?_); refine goesL_ (some 22) rfl rfl Try.func28 (by kernel_rfl) rfl #[.agg #[.int .i64 ((rd_T31 l0 x17_1).f0), .string ((rd_T31 l0 x17_1).f1), .int .i64 ((rd_T31 l0 x17_1).f2)]] rfl (by (try simp only [List.map_toArray, List.map_cons, List.map_nil]); first | done | rfl | (simp only [List.length_drop, List.length_take]; rfl)) ?_; (with_reducible refine (lex_right.calls k1 ((rd_T31 l0 x17_1).f0) ((rd_T31 l0 x17_1).f1) ((rd_T31 l0 x17_1).f2) true _ A10.out).mono ?_); rintro e w15 ⟨rfl, hb⟩; refine ⟨_, rfl, ?_⟩; have n0_ := Aside0.mk (Kd.R_below (by (with_reducible repeat (first | apply Kd.R_alloc | apply Kd.R_drewN | apply Kd.R_drew)); exact (Kd.R_mono (Kd.R_far (p := ⟨gb254, 2, none⟩) (Kd.R_far (p := ⟨gb254, 1, none⟩) (Kd.R_far (p := ⟨gb254, 0, none⟩) (Kd.R_types HO_5.out BK254.out (by decide)) (fun _ hk => hk.2) (.int .i64 ((rd_T31 l0 x17_1).f0))) (fun _ hk => hk.2) (.string ((rd_T31 l0 x17_1).f1))) (fun _ hk => hk.2) (.int .i64 ((rd_T31 l0 x17_1).f2))) (fun _ h_ => h_.1))) hb); have n1_ := Aside0.mk (blk_below (g := gb254) (o := .cells #[.int .i64 ((rd_T31 l0 x17_1).f0), .string ((rd_T31 l0 x17_1).f1), .int .i64 ((rd_T31 l0 x17_1).f2)] 31 (0, 0)) (by (with_reducible repeat (first | refine blk_drewN ?_ _ | refine blk_drew ?_ | refine blk_alloc ?_ _)); refine blk_put (cs := #[.int .i64 ((rd_T31 l0 x17_1).f0), .string ((rd_T31 l0 x17_1).f1), .int .i64 0]) ?_ 2 _ rfl; (with_reducible repeat (first | refine blk_drewN ?_ _ | refine blk_drew ?_ | refine blk_alloc ?_ _)); refine blk_put (cs := #[.int .i64 ((rd_T31 l0 x17_1).f0), .string (⟨#[]⟩ : ByteArray), .int .i64 0]) ?_ 1 _ rfl; (with_reducible repeat (first | refine blk_drewN ?_ _ | refine blk_drew ?_ | refine blk_alloc ?_ _)); refine blk_put (cs := #[.int .i64 0, .string (⟨#[]⟩ : ByteArray), .int .i64 0]) ?_ 0 _ rfl; (with_reducible repeat (first | refine blk_drewN ?_ _ | refine blk_drew ?_ | refine blk_alloc ?_ _)); exact BK254.out) hb); have n2_ := Aside0.mk (below_step (by repeat (first | (with_reducible first | exact HB.out | apply below_alloc | apply pw_below_drewN | apply below_drew1 | refine below_set ?_ GE254.out) | exact HB.out)) hb); clear HO_5; clear BK254; clear HB; have HO_5 := n0_; have BK254 := n1_; have HB := n2_; clear n0_ n1_ n2_; (try clear hb); (try clear hb2); (try clear hk); (try clear hi); have hcz16_0 : w15.cell? ⟨gb254, 0, none⟩ = some (.int .i64 ((rd_T31 l0 x17_1).f0)) := (blk_cell BK254.out 0).trans rfl; have hcz16_1 : w15.cell? ⟨gb254, 1, none⟩ = some (.string ((rd_T31 l0 x17_1).f1)) := (blk_cell BK254.out 1).trans rfl; have hcz16_2 : w15.cell? ⟨gb254, 2, none⟩ = some (.int .i64 ((rd_T31 l0 x17_1).f2)) := (blk_cell BK254.out 2).trans rfl; have hfz16_0 := blk_frozen BK254.out 0; have hfz16_1 := blk_frozen BK254.out 1; have hfz16_2 := blk_frozen BK254.out 2) | ((with_reducible refine gate_builtin (b := .append) (xs := #[.tmp 29, .tmp 32]) rfl ?_); at_builtin; refine Kd.R_append Kd.string (w0 := w) w.heap.size rfl (.tmp 29) (.tmp 32) 45 9 (.string ⟨#[]⟩) 16 rfl Try.underlying45 info9 rfl (by decide) (by omega) u5 x5_1 ((rd_T31 l0 x17_1).f1) [.string ((rd_T31 l0 x17_1).f1)] (fun _ => True) (fun _ => False) rfl rfl ?aP (fun _ hk => hk.elim) ?aF ?aO ?aB ?aS ?aL ?_; (case aP => exact rfl); (case aB => exact (by repeat (first | (with_reducible first | exact HB.out | apply below_alloc | apply pw_below_drewN | apply below_drew1 | refine below_set ?_ GE254.out) | exact HB.out))); (case aF => exact (fun _ _ => trivial)); (case aO => exact (by (with_reducible repeat (first | apply Kd.R_alloc | apply Kd.R_drewN | apply Kd.R_drew)); exact HO_5.out)); (case aS => exact (below_size (by repeat (first | (with_reducible first | exact HB.out | apply below_alloc | apply pw_below_drewN | apply below_drew1 | refine below_set ?_ GE254.out) | exact HB.out)))); (case aL => have := LMc12.out; omega); intro v257 w17 ho hb hg hat; rw [← Ny256.out] at ho; have n0_ := Aside0.mk (blk_grown (g := gb254) (o := .cells #[.int .i64 ((rd_T31 l0 x17_1).f0), .string ((rd_T31 l0 x17_1).f1), .int .i64 ((rd_T31 l0 x17_1).f2)] 31 (0, 0)) (by (with_reducible repeat (first | refine blk_drewN ?_ _ | refine blk_drew ?_ | refine blk_alloc ?_ _)); exact BK254.out) hg (Kd.R_ne HO_5.out BK254.out (by decide))); have n1_ := Aside0.mk (hb); have n2_ := Aside0.mk (ho); clear BK254; clear HB; clear HO_5; have BK254 := n0_; have HB := n1_; have HO258 := n2_; clear n0_ n1_ n2_; clear ho hb hg hat))
                    go_roundg k1
                    case measure => have := HK1.out; omega
                    case rel => exact ⟨(wrap64 (x4_1 + (((rd_T31 l0 x17_1).f1).size : Int))), (y256), (wrap64 (x17_1 + 1)), (by first | rfl | (simp; done) | (simp [*]; done)), (by first | rfl | (simp; done) | (simp [*]; done)), H', ⟨by have := HK1.out; omega⟩, ⟨by (with_reducible repeat (first | apply Kd.R_alloc | apply Kd.R_drewN | apply Kd.R_drew)); exact HO258.out⟩, ⟨by repeat (first | (with_reducible first | exact HB.out | apply below_alloc | apply pw_below_drewN | apply below_drew1 | refine below_set ?_ GE254.out) | exact HB.out)⟩⟩
                  · rw [if_neg c12] at H
                    exact absurd H (by simp)
                · replace c11 := Bool.eq_false_iff.mpr c11
                  subst c11
                  have H1 : (some ((⟨#[]⟩ : ByteArray), 90)) = some (r1, r2) := by rw [if_neg (show ¬ (false = true) by decide)] at H; exact H
                  clear H
                  have H := H1
                  clear H1
                  simp only [Option.some.injEq, Prod.mk.injEq] at H
                  obtain ⟨rfl, rfl⟩ := H
                  have p253 : 0 ≤ (x17_1 : Int) := of_decide_eq_true (by first | (with_reducible assumption) | assumption)
                  have q253 : x17_1 < (l0.length : Int) := of_decide_eq_true (by first | (with_reducible assumption) | assumption)
                  obtain ⟨ad253, e253, hx253_0, hx253_1, hx253_2⟩ := at_T31 HR0.out x17_1 p253 q253
                  cases e253
                  replace hx253_0 := (HB.out.cell (World.block_lt_of_cell? w _ hx253_0)).trans hx253_0
                  replace hx253_1 := (HB.out.cell (World.block_lt_of_cell? w _ hx253_1)).trans hx253_1
                  replace hx253_2 := (HB.out.cell (World.block_lt_of_cell? w _ hx253_2)).trans hx253_2
                  replace p253 := eq_true p253
                  replace q253 := eq_true q253
                  go_wp2_with (first | ((with_reducible refine gate_dst (N := 7) rfl ?_); refine box_event ?hg (N := 7) ?hd (cs := #[.int .i64 0, .string (⟨#[]⟩ : ByteArray), .int .i64 0]) (t := 31) ?hr ?_; (case hd => rfl); (case hg => rfl); (case hr => first | (go_simp; done) | (go_simp; rfl)); intro gb254 hg w18 hbox hb; have n0_ := Aside0.mk (Kd.R_below (by (with_reducible repeat (first | apply Kd.R_alloc | apply Kd.R_drewN | apply Kd.R_drew)); exact HO_5.out) hb); have n1_ := Aside0.mk (below_step (by repeat (first | (with_reducible first | exact HB.out | apply below_alloc | apply pw_below_drewN | apply below_drew1) | exact HB.out)) hb); have n2_ := Aside0.mk (hbox); have n3_ := Aside0.mk ((by rw [hg]; exact (below_size (by repeat (first | (with_reducible first | exact HB.out | apply below_alloc | apply pw_below_drewN | apply below_drew1) | exact HB.out))) : w.heap.size ≤ gb254)); have n4_ := Aside0.mk ((by rw [hg]; exact (below_size (by repeat (first | (with_reducible first | exact HB.out | apply below_alloc | apply pw_below_drewN | apply below_drew1) | exact HB.out))) : w.heap.size ≤ gb254)); clear HO_5; clear HB; have HO_5 := n0_; have HB := n1_; have BK254 := n2_; have GW254 := n3_; have GE254 := n4_; clear n0_ n1_ n2_ n3_ n4_; clear hb hbox hg; have hcz19_0 : w18.cell? ⟨gb254, 0, none⟩ = some (.int .i64 0) := (blk_cell BK254.out 0).trans rfl; have hcz19_1 : w18.cell? ⟨gb254, 1, none⟩ = some (.string (⟨#[]⟩ : ByteArray)) := (blk_cell BK254.out 1).trans rfl; have hcz19_2 : w18.cell? ⟨gb254, 2, none⟩ = some (.int .i64 0) := (blk_cell BK254.out 2).trans rfl; have hfz19_0 := blk_frozen BK254.out 0; have hfz19_1 := blk_frozen BK254.out 1; have hfz19_2 := blk_frozen BK254.out 2) | ((with_reducible refine gate_callee (f := 28) rfl ?_); refine goesL_ (some 22) rfl rfl Try.func28 (by kernel_rfl) rfl #[.agg #[.int .i64 ((rd_T31 l0 x17_1).f0), .string ((rd_T31 l0 x17_1).f1), .int .i64 ((rd_T31 l0 x17_1).f2)]] rfl (by (try simp only [List.map_toArray, List.map_cons, List.map_nil]); first | done | rfl | (simp only [List.length_drop, List.length_take]; rfl)) ?_; (with_reducible refine (lex_right.calls k1 ((rd_T31 l0 x17_1).f0) ((rd_T31 l0 x17_1).f1) ((rd_T31 l0 x17_1).f2) false _ A10.out).mono ?_); rintro e w20 ⟨rfl, hb⟩; refine ⟨_, rfl, ?_⟩; have n0_ := Aside0.mk (Kd.R_below (by (with_reducible repeat (first | apply Kd.R_alloc | apply Kd.R_drewN | apply Kd.R_drew)); exact (Kd.R_mono (Kd.R_far (p := ⟨gb254, 2, none⟩) (Kd.R_far (p := ⟨gb254, 1, none⟩) (Kd.R_far (p := ⟨gb254, 0, none⟩) (Kd.R_types HO_5.out BK254.out (by decide)) (fun _ hk => hk.2) (.int .i64 ((rd_T31 l0 x17_1).f0))) (fun _ hk => hk.2) (.string ((rd_T31 l0 x17_1).f1))) (fun _ hk => hk.2) (.int .i64 ((rd_T31 l0 x17_1).f2))) (fun _ h_ => h_.1))) hb); have n1_ := Aside0.mk (blk_below (g := gb254) (o := .cells #[.int .i64 ((rd_T31 l0 x17_1).f0), .string ((rd_T31 l0 x17_1).f1), .int .i64 ((rd_T31 l0 x17_1).f2)] 31 (0, 0)) (by (with_reducible repeat (first | refine blk_drewN ?_ _ | refine blk_drew ?_ | refine blk_alloc ?_ _)); refine blk_put (cs := #[.int .i64 ((rd_T31 l0 x17_1).f0), .string ((rd_T31 l0 x17_1).f1), .int .i64 0]) ?_ 2 _ rfl; (with_reducible repeat (first | refine blk_drewN ?_ _ | refine blk_drew ?_ | refine blk_alloc ?_ _)); refine blk_put (cs := #[.int .i64 ((rd_T31 l0 x17_1).f0), .string (⟨#[]⟩ : ByteArray), .int .i64 0]) ?_ 1 _ rfl; (with_reducible repeat (first | refine blk_drewN ?_ _ | refine blk_drew ?_ | refine blk_alloc ?_ _)); refine blk_put (cs := #[.int .i64 0, .string (⟨#[]⟩ : ByteArray), .int .i64 0]) ?_ 0 _ rfl; (with_reducible repeat (first | refine blk_drewN ?_ _ | refine blk_drew ?_ | refine blk_alloc ?_ _)); exact BK254.out) hb); have n2_ := Aside0.mk (below_step (by repeat (first | (with_reducible first | exact HB.out | apply below_alloc | apply pw_below_drewN | apply below_drew1 | refine below_set ?_ GE254.out) | exact HB.out)) hb); clear HO_5; clear BK254; clear HB; have HO_5 := n0_; have BK254 := n1_; have HB := n2_; clear n0_ n1_ n2_; (try clear hb); (try clear hb2); (try clear hk); (try clear hi)))
                  go_ret2
                  exact ⟨by first | rfl | (simp [errW_none, errW_some] <;> rfl) | (simp only [← hji2]; first | rfl | (simp [errW_none, errW_some] <;> rfl)) | (simp [*, errW_none, errW_some] <;> rfl), by repeat (first | (with_reducible first | exact HB.out | apply below_alloc | apply pw_below_drewN | apply below_drew1 | refine below_set ?_ GE254.out) | exact HB.out)⟩
              · rw [if_neg c9] at H
                exact absurd H (by simp)
            · rw [if_neg c8] at H
              exact absurd H (by simp)
          · rw [if_neg c7] at H
            have c7b0 : decide (x17_1 < (l0.length : Int)) = false := decide_eq_false c7
            clear c7
            by_cases c21 : x4_1 > 65536
            · rw [if_pos c21] at H
              have c21b0 : decide (65536 < x4_1) = true := decide_eq_true c21
              clear c21
              simp only [Option.some.injEq, Prod.mk.injEq] at H
              obtain ⟨rfl, rfl⟩ := H
              go_wp2
              go_ret2
              exact ⟨by first | rfl | (simp [errW_none, errW_some] <;> rfl) | (simp only [← hji2]; first | rfl | (simp [errW_none, errW_some] <;> rfl)) | (simp [*, errW_none, errW_some] <;> rfl), by repeat (first | (with_reducible first | exact HB.out | apply below_alloc | apply pw_below_drewN | apply below_drew1) | exact HB.out)⟩
            · rw [if_neg c21] at H
              have c21b0 : decide (65536 < x4_1) = false := decide_eq_false c21
              clear c21
              replace H := Option.bind_eq_some_iff.mp H
              obtain ⟨t259, A220, H⟩ := H
              replace H : (some (t259, 0)) = some (r1, r2) := H
              have A22 := Aside0.mk A220
              clear A220
              simp only [Option.some.injEq, Prod.mk.injEq] at H
              obtain ⟨rfl, rfl⟩ := H
              obtain ⟨Ao23, co23, eo23⟩ := Kd.R_slice HO_5.out
              subst eo23
              go_wp2_with (first | ((with_reducible refine gate_callee (f := 29) rfl ?_); refine goesL_ (some 38) rfl rfl Try.func29 (by kernel_rfl) rfl #[.slice Ao23 x5_1.length co23, .string (⟨#[32]⟩ : ByteArray)] rfl (by (try simp only [List.map_toArray, List.map_cons, List.map_nil]); first | done | rfl | (simp only [List.length_drop, List.length_take]; rfl)) ?_; (with_reducible refine (strings_Join.calls _ _ x5_1 (⟨#[32]⟩ : ByteArray) t259 _ ?side1 ?side2 A22.out ?side3).mono ?_); (case side3 => exact Kd.R_spot (by (with_reducible repeat (first | apply Kd.R_alloc | apply Kd.R_drewN | apply Kd.R_drew)); exact HO_5.out)); (case side1 => repeat (first | exact (Kd.R_reads' HO_5.out).2.2 | (with_reducible refine Kd.C_alloc ?_ _) | (with_reducible refine Kd.C_drewN ?_ _) | (with_reducible refine Kd.C_drew ?_))); (case side2 => exact (Kd.R_reads' HO_5.out).2.1); rintro e w24 ⟨rfl, hb⟩; refine ⟨_, rfl, ?_⟩; have n0_ := Aside0.mk (Kd.R_below (by (with_reducible repeat (first | apply Kd.R_alloc | apply Kd.R_drewN | apply Kd.R_drew)); exact HO_5.out) hb); have n1_ := Aside0.mk (below_step (by repeat (first | (with_reducible first | exact HB.out | apply below_alloc | apply pw_below_drewN | apply below_drew1) | exact HB.out)) hb); clear HO_5; clear HB; have HO_5 := n0_; have HB := n1_; clear n0_ n1_; (try clear hb); (try clear hb2); (try clear hk); (try clear hi)))
              go_ret2
              exact ⟨by first | rfl | (simp [errW_none, errW_some] <;> rfl) | (simp only [← hji2]; first | rfl | (simp [errW_none, errW_some] <;> rfl)) | (simp [*, errW_none, errW_some] <;> rfl), by repeat (first | (with_reducible first | exact HB.out | apply below_alloc | apply pw_below_drewN | apply below_drew1) | exact HB.out)⟩
    · rw [if_neg c4] at H
      exact absurd H (by simp)
  · rw [if_neg c3] at H
    exact absurd H (by simp)

/-! ### cubitlaw09_LexJoins: function 6 -/
def cubitlaw09_LexJoins.f (k : Nat) (a0 : ByteArray) (l1 : List (S31)) : Option (Bool) := (cubitlaw09_awake.f k).bind fun t260 => (if t260 = true then ((some (([] : List (S31)) : List (S31))).bind fun y261 => (if y261.length + l1.length < 4398046511104 then ((some (y261 ++ l1 : List (S31))).bind fun y264 => (if y264.length < 4398046511104 then ((some (y264 ++ [(⟨77, (⟨#[]⟩ : ByteArray), 0⟩ : S31)] : List (S31))).bind fun y267 => ((cubitref09_Join.f k l1).bind fun bt270 => (if 0 ≤ (l1.length : Int) then (if (l1.length : Int) ≤ (y267.length : Int) then ((lex_Join.f k (y267.take ((l1.length : Int) : Int).toNat)).bind fun bt276 => (if bt276.1.toList = bt270.1.toList then (if bt276.2 = bt270.2 then ((lex_IsName.f k a0).bind fun t278 => ((cubitref09_IsName.f k a0).bind fun t279 => (if (t278 == t279) = true then ((cubitlaw09_same.f k (y267.take ((l1.length : Int) : Int).toNat) l1).bind fun t284 => (if t284 = true then (if (l1.length : Int) < (y267.length : Int) then (some (((rd_T31 y267 (l1.length : Int)).f0) == 77)) else (none)) else (some false))) else (some false)))) else (some false)) else (some false))) else (none)) else (none)))) else (none))) else (none))) else (some false))
theorem cubitlaw09_LexJoins.mono : ∀ a0 a1 k, LeO (cubitlaw09_LexJoins.f k a0 a1) (cubitlaw09_LexJoins.f (k + 1) a0 a1) := by
  intro a0 a1 k
  unfold cubitlaw09_LexJoins.f
  repeat' first
      | (with_reducible exact cubitlaw09_awake.mono _)
      | (with_reducible exact cubitlaw09_same.mono _ _ _)
      | (with_reducible exact cubitref09_IsName.mono _ _)
      | (with_reducible exact cubitref09_Join.mono _ _)
      | (with_reducible exact lex_IsName.mono _ _)
      | (with_reducible exact lex_Join.mono _ _)
      | (with_reducible exact LeO.refl _)
      | (with_reducible exact LeO.none _)
      | (with_reducible refine LeO.ite ?_ ?_)
      | (with_reducible refine LeO.bind ?_ (fun _ => ?_))
      | exact cubitlaw09_awake.mono _
      | exact cubitlaw09_same.mono _ _ _
      | exact cubitref09_IsName.mono _ _
      | exact cubitref09_Join.mono _ _
      | exact lex_IsName.mono _ _
      | exact lex_Join.mono _ _
      | exact LeO.none _
      | refine LeO.ite ?_ ?_
      | refine LeO.bind ?_ (fun _ => ?_)
set_option maxHeartbeats 8000000 in
set_option maxRecDepth 100000 in
theorem cubitlaw09_LexJoins.calls (k : Nat) (a0 : ByteArray) (A1 : Option Addr) (c1 : Nat) (l1 : List (S31)) (r : Bool) (w : World) (hr1 : Kd.C k31 w A1 l1.length l1) (hc1 : l1.length ≤ c1) (h : cubitlaw09_LexJoins.f k a0 l1 = some r) (htrue : r = true) :
    Calls Try.prog 6 #[.string a0, .slice A1 l1.length c1] w fun e w' => e = .returned (.bool r) ∧ Below w.heap.size w w' := by
  have hu31 := Try.underlying31
  have HR1 := Aside0.mk hr1
  have HC1 := Aside0.mk hc1
  clear hr1 hc1
  have HB := Aside0.mk (Below.refl w.heap.size w)
  have HTRUE := Aside0.mk htrue
  clear htrue
  have H : ((cubitlaw09_awake.f k).bind fun t260 => (if t260 = true then ((some (([] : List (S31)) : List (S31))).bind fun y261 => (if y261.length + l1.length < 4398046511104 then ((some (y261 ++ l1 : List (S31))).bind fun y264 => (if y264.length < 4398046511104 then ((some (y264 ++ [(⟨77, (⟨#[]⟩ : ByteArray), 0⟩ : S31)] : List (S31))).bind fun y267 => ((cubitref09_Join.f k l1).bind fun bt270 => (if 0 ≤ (l1.length : Int) then (if (l1.length : Int) ≤ (y267.length : Int) then ((lex_Join.f k (y267.take ((l1.length : Int) : Int).toNat)).bind fun bt276 => (if bt276.1.toList = bt270.1.toList then (if bt276.2 = bt270.2 then ((lex_IsName.f k a0).bind fun t278 => ((cubitref09_IsName.f k a0).bind fun t279 => (if (t278 == t279) = true then ((cubitlaw09_same.f k (y267.take ((l1.length : Int) : Int).toNat) l1).bind fun t284 => (if t284 = true then (if (l1.length : Int) < (y267.length : Int) then (some (((rd_T31 y267 (l1.length : Int)).f0) == 77)) else (none)) else (some false))) else (some false)))) else (some false)) else (some false))) else (none)) else (none)))) else (none))) else (none))) else (some false))) = some r := h
  clear h
  replace H := Option.bind_eq_some_iff.mp H
  obtain ⟨t260, A30, H⟩ := H
  replace H : (if t260 = true then ((some (([] : List (S31)) : List (S31))).bind fun y261 => (if y261.length + l1.length < 4398046511104 then ((some (y261 ++ l1 : List (S31))).bind fun y264 => (if y264.length < 4398046511104 then ((some (y264 ++ [(⟨77, (⟨#[]⟩ : ByteArray), 0⟩ : S31)] : List (S31))).bind fun y267 => ((cubitref09_Join.f k l1).bind fun bt270 => (if 0 ≤ (l1.length : Int) then (if (l1.length : Int) ≤ (y267.length : Int) then ((lex_Join.f k (y267.take ((l1.length : Int) : Int).toNat)).bind fun bt276 => (if bt276.1.toList = bt270.1.toList then (if bt276.2 = bt270.2 then ((lex_IsName.f k a0).bind fun t278 => ((cubitref09_IsName.f k a0).bind fun t279 => (if (t278 == t279) = true then ((cubitlaw09_same.f k (y267.take ((l1.length : Int) : Int).toNat) l1).bind fun t284 => (if t284 = true then (if (l1.length : Int) < (y267.length : Int) then (some (((rd_T31 y267 (l1.length : Int)).f0) == 77)) else (none)) else (some false))) else (some false)))) else (some false)) else (some false))) else (none)) else (none)))) else (none))) else (none))) else (some false)) = some r := H
  have A3 := Aside0.mk A30
  clear A30
  by_cases c4 : t260 = true
  · subst c4
    have H1 : ((some (([] : List (S31)) : List (S31))).bind fun y261 => (if y261.length + l1.length < 4398046511104 then ((some (y261 ++ l1 : List (S31))).bind fun y264 => (if y264.length < 4398046511104 then ((some (y264 ++ [(⟨77, (⟨#[]⟩ : ByteArray), 0⟩ : S31)] : List (S31))).bind fun y267 => ((cubitref09_Join.f k l1).bind fun bt270 => (if 0 ≤ (l1.length : Int) then (if (l1.length : Int) ≤ (y267.length : Int) then ((lex_Join.f k (y267.take ((l1.length : Int) : Int).toNat)).bind fun bt276 => (if bt276.1.toList = bt270.1.toList then (if bt276.2 = bt270.2 then ((lex_IsName.f k a0).bind fun t278 => ((cubitref09_IsName.f k a0).bind fun t279 => (if (t278 == t279) = true then ((cubitlaw09_same.f k (y267.take ((l1.length : Int) : Int).toNat) l1).bind fun t284 => (if t284 = true then (if (l1.length : Int) < (y267.length : Int) then (some (((rd_T31 y267 (l1.length : Int)).f0) == 77)) else (none)) else (some false))) else (some false)))) else (some false)) else (some false))) else (none)) else (none)))) else (none))) else (none))) = some r := by rw [if_pos rfl] at H; exact H
    clear H
    have H := H1
    clear H1
    obtain ⟨y261, hy261⟩ : ∃ y_ : List (S31), y_ = (([] : List (S31))) := ⟨_, rfl⟩
    replace H : (if y261.length + l1.length < 4398046511104 then ((some (y261 ++ l1 : List (S31))).bind fun y264 => (if y264.length < 4398046511104 then ((some (y264 ++ [(⟨77, (⟨#[]⟩ : ByteArray), 0⟩ : S31)] : List (S31))).bind fun y267 => ((cubitref09_Join.f k l1).bind fun bt270 => (if 0 ≤ (l1.length : Int) then (if (l1.length : Int) ≤ (y267.length : Int) then ((lex_Join.f k (y267.take ((l1.length : Int) : Int).toNat)).bind fun bt276 => (if bt276.1.toList = bt270.1.toList then (if bt276.2 = bt270.2 then ((lex_IsName.f k a0).bind fun t278 => ((cubitref09_IsName.f k a0).bind fun t279 => (if (t278 == t279) = true then ((cubitlaw09_same.f k (y267.take ((l1.length : Int) : Int).toNat) l1).bind fun t284 => (if t284 = true then (if (l1.length : Int) < (y267.length : Int) then (some (((rd_T31 y267 (l1.length : Int)).f0) == 77)) else (none)) else (some false))) else (some false)))) else (some false)) else (some false))) else (none)) else (none)))) else (none))) else (none)) = some r := by first | (rw [hy261]; with_reducible exact H) | (have H2_ := (Option.bind_some _ _).symm.trans H; rw [hy261]; with_reducible exact H2_) | (have H2_ := (Option.bind_some _ _).symm.trans H; with_reducible exact H2_) | with_reducible exact H | (rw [hy261]; exact H) | exact H
    have Ny261 := Aside0.mk hy261
    clear hy261
    by_cases c5 : y261.length + l1.length < 4398046511104
    · rw [if_pos c5] at H
      have LMc5 := Aside0.mk c5
      clear c5
      obtain ⟨y264, hy264⟩ : ∃ y_ : List (S31), y_ = (y261 ++ l1) := ⟨_, rfl⟩
      replace H : (if y264.length < 4398046511104 then ((some (y264 ++ [(⟨77, (⟨#[]⟩ : ByteArray), 0⟩ : S31)] : List (S31))).bind fun y267 => ((cubitref09_Join.f k l1).bind fun bt270 => (if 0 ≤ (l1.length : Int) then (if (l1.length : Int) ≤ (y267.length : Int) then ((lex_Join.f k (y267.take ((l1.length : Int) : Int).toNat)).bind fun bt276 => (if bt276.1.toList = bt270.1.toList then (if bt276.2 = bt270.2 then ((lex_IsName.f k a0).bind fun t278 => ((cubitref09_IsName.f k a0).bind fun t279 => (if (t278 == t279) = true then ((cubitlaw09_same.f k (y267.take ((l1.length : Int) : Int).toNat) l1).bind fun t284 => (if t284 = true then (if (l1.length : Int) < (y267.length : Int) then (some (((rd_T31 y267 (l1.length : Int)).f0) == 77)) else (none)) else (some false))) else (some false)))) else (some false)) else (some false))) else (none)) else (none)))) else (none)) = some r := by first | (rw [hy264]; with_reducible exact H) | (have H2_ := (Option.bind_some _ _).symm.trans H; rw [hy264]; with_reducible exact H2_) | (have H2_ := (Option.bind_some _ _).symm.trans H; with_reducible exact H2_) | with_reducible exact H | (rw [hy264]; exact H) | exact H
      have Ny264 := Aside0.mk hy264
      clear hy264
      by_cases c6 : y264.length < 4398046511104
      · rw [if_pos c6] at H
        have LMc6 := Aside0.mk c6
        clear c6
        obtain ⟨y267, hy267⟩ : ∃ y_ : List (S31), y_ = (y264 ++ [(⟨77, (⟨#[]⟩ : ByteArray), 0⟩ : S31)]) := ⟨_, rfl⟩
        replace H : ((cubitref09_Join.f k l1).bind fun bt270 => (if 0 ≤ (l1.length : Int) then (if (l1.length : Int) ≤ (y267.length : Int) then ((lex_Join.f k (y267.take ((l1.length : Int) : Int).toNat)).bind fun bt276 => (if bt276.1.toList = bt270.1.toList then (if bt276.2 = bt270.2 then ((lex_IsName.f k a0).bind fun t278 => ((cubitref09_IsName.f k a0).bind fun t279 => (if (t278 == t279) = true then ((cubitlaw09_same.f k (y267.take ((l1.length : Int) : Int).toNat) l1).bind fun t284 => (if t284 = true then (if (l1.length : Int) < (y267.length : Int) then (some (((rd_T31 y267 (l1.length : Int)).f0) == 77)) else (none)) else (some false))) else (some false)))) else (some false)) else (some false))) else (none)) else (none))) = some r := by first | (rw [hy267]; with_reducible exact H) | (have H2_ := (Option.bind_some _ _).symm.trans H; rw [hy267]; with_reducible exact H2_) | (have H2_ := (Option.bind_some _ _).symm.trans H; with_reducible exact H2_) | with_reducible exact H | (rw [hy267]; exact H) | exact H
        have Ny267 := Aside0.mk hy267
        clear hy267
        replace H := Option.bind_eq_some_iff.mp H
        obtain ⟨⟨t270, t271⟩, A70, H⟩ := H
        replace H : (if 0 ≤ (l1.length : Int) then (if (l1.length : Int) ≤ (y267.length : Int) then ((lex_Join.f k (y267.take ((l1.length : Int) : Int).toNat)).bind fun bt276 => (if bt276.1.toList = t270.toList then (if bt276.2 = t271 then ((lex_IsName.f k a0).bind fun t278 => ((cubitref09_IsName.f k a0).bind fun t279 => (if (t278 == t279) = true then ((cubitlaw09_same.f k (y267.take ((l1.length : Int) : Int).toNat) l1).bind fun t284 => (if t284 = true then (if (l1.length : Int) < (y267.length : Int) then (some (((rd_T31 y267 (l1.length : Int)).f0) == 77)) else (none)) else (some false))) else (some false)))) else (some false)) else (some false))) else (none)) else (none)) = some r := H
        have A7 := Aside0.mk A70
        clear A70
        by_cases c8 : 0 ≤ (l1.length : Int)
        · rw [if_pos c8] at H
          have c8b0 := eq_true c8
          have c8b1 : decide (0 ≤ (l1.length : Int)) = true := decide_eq_true c8
          clear c8
          by_cases c9 : (l1.length : Int) ≤ (y267.length : Int)
          · rw [if_pos c9] at H
            have c9b0 := eq_true c9
            have c9b1 : decide ((l1.length : Int) ≤ (y267.length : Int)) = true := decide_eq_true c9
            clear c9
            obtain ⟨y272, hy272⟩ : ∃ y_ : List (S31), y_ = (y267.take ((l1.length : Int) : Int).toNat) := ⟨_, rfl⟩
            replace H : ((lex_Join.f k y272).bind fun bt276 => (if bt276.1.toList = t270.toList then (if bt276.2 = t271 then ((lex_IsName.f k a0).bind fun t278 => ((cubitref09_IsName.f k a0).bind fun t279 => (if (t278 == t279) = true then ((cubitlaw09_same.f k (y267.take ((l1.length : Int) : Int).toNat) l1).bind fun t284 => (if t284 = true then (if (l1.length : Int) < (y267.length : Int) then (some (((rd_T31 y267 (l1.length : Int)).f0) == 77)) else (none)) else (some false))) else (some false)))) else (some false)) else (some false))) = some r := by first | (rw [hy272]; with_reducible exact H) | (have H2_ := (Option.bind_some _ _).symm.trans H; rw [hy272]; with_reducible exact H2_) | (have H2_ := (Option.bind_some _ _).symm.trans H; with_reducible exact H2_) | with_reducible exact H | (rw [hy272]; exact H) | exact H
            have Ny272 := Aside0.mk hy272
            clear hy272
            replace H := Option.bind_eq_some_iff.mp H
            obtain ⟨⟨t276, t277⟩, A100, H⟩ := H
            replace H : (if t276.toList = t270.toList then (if t277 = t271 then ((lex_IsName.f k a0).bind fun t278 => ((cubitref09_IsName.f k a0).bind fun t279 => (if (t278 == t279) = true then ((cubitlaw09_same.f k (y267.take ((l1.length : Int) : Int).toNat) l1).bind fun t284 => (if t284 = true then (if (l1.length : Int) < (y267.length : Int) then (some (((rd_T31 y267 (l1.length : Int)).f0) == 77)) else (none)) else (some false))) else (some false)))) else (some false)) else (some false)) = some r := H
            have A10 := Aside0.mk A100
            clear A100
            by_cases c11 : t276.toList = t270.toList
            · rw [if_pos c11] at H
              have c11b0 : (t276.toList == t270.toList) = true := beq_iff_eq.mpr c11
              have c11b1 : (t276.toList != t270.toList) = false := bne_eq_false_iff_eq.mpr c11
              clear c11
              by_cases c12 : t277 = t271
              · rw [if_pos c12] at H
                have c12b0 : (t277 == t271) = true := beq_iff_eq.mpr c12
                have c12b1 : (t277 != t271) = false := bne_eq_false_iff_eq.mpr c12
                clear c12
                replace H := Option.bind_eq_some_iff.mp H
                obtain ⟨t278, A130, H⟩ := H
                replace H : ((cubitref09_IsName.f k a0).bind fun t279 => (if (t278 == t279) = true then ((cubitlaw09_same.f k (y267.take ((l1.length : Int) : Int).toNat) l1).bind fun t284 => (if t284 = true then (if (l1.length : Int) < (y267.length : Int) then (some (((rd_T31 y267 (l1.length : Int)).f0) == 77)) else (none)) else (some false))) else (some false))) = some r := H
                have A13 := Aside0.mk A130
                clear A130
                replace H := Option.bind_eq_some_iff.mp H
                obtain ⟨t279, A140, H⟩ := H
                replace H : (if (t278 == t279) = true then ((cubitlaw09_same.f k (y267.take ((l1.length : Int) : Int).toNat) l1).bind fun t284 => (if t284 = true then (if (l1.length : Int) < (y267.length : Int) then (some (((rd_T31 y267 (l1.length : Int)).f0) == 77)) else (none)) else (some false))) else (some false)) = some r := H
                have A14 := Aside0.mk A140
                clear A140
                by_cases c15 : (t278 == t279) = true
                · rw [if_pos c15] at H
                  have c15b0 : (t278 == t279) = true := c15
                  (try (have c15b1 : decide (t278 = t279) = true := by simpa using c15))
                  (try (have c15b2 : (t278 == t279) = true := by simpa using c15))
                  clear c15
                  have c16b0 := eq_true (of_decide_eq_true (by first | (with_reducible assumption) | assumption) : 0 ≤ (l1.length : Int))
                  have c17b0 := eq_true (of_decide_eq_true (by first | (with_reducible assumption) | assumption) : (l1.length : Int) ≤ (y267.length : Int))
                  obtain ⟨y280, hy280⟩ : ∃ y_ : List (S31), y_ = (y267.take ((l1.length : Int) : Int).toNat) := ⟨_, rfl⟩
                  replace H : ((cubitlaw09_same.f k y280 l1).bind fun t284 => (if t284 = true then (if (l1.length : Int) < (y267.length : Int) then (some (((rd_T31 y267 (l1.length : Int)).f0) == 77)) else (none)) else (some false))) = some r := by first | (rw [hy280]; with_reducible exact H) | (have H2_ := (Option.bind_some _ _).symm.trans H; rw [hy280]; with_reducible exact H2_) | (have H2_ := (Option.bind_some _ _).symm.trans H; with_reducible exact H2_) | with_reducible exact H | (rw [hy280]; exact H) | exact H
                  have Ny280 := Aside0.mk hy280
                  clear hy280
                  replace H := Option.bind_eq_some_iff.mp H
                  obtain ⟨t284, A180, H⟩ := H
                  replace H : (if t284 = true then (if (l1.length : Int) < (y267.length : Int) then (some (((rd_T31 y267 (l1.length : Int)).f0) == 77)) else (none)) else (some false)) = some r := H
                  have A18 := Aside0.mk A180
                  clear A180
                  by_cases c19 : t284 = true
                  · subst c19
                    have H1 : (if (l1.length : Int) < (y267.length : Int) then (some (((rd_T31 y267 (l1.length : Int)).f0) == 77)) else (none)) = some r := by rw [if_pos rfl] at H; exact H
                    clear H
                    have H := H1
                    clear H1
                    by_cases c20 : (l1.length : Int) < (y267.length : Int)
                    · rw [if_pos c20] at H
                      have c20b0 : decide ((l1.length : Int) < (y267.length : Int)) = true := decide_eq_true c20
                      have c20b1 : decide (l1.length < y267.length) = true := decide_eq_true (Int.ofNat_lt.mp c20)
                      clear c20
                      obtain rfl := Option.some.inj H
                      obtain rfl : y272 = y280 := Ny272.out.trans Ny280.out.symm
                      go_enter Try.func6, Try.ntmps6
                      go_wp2_with (first | ((with_reducible refine gate_callee (f := 8) rfl ?_); refine goesL_ (some 10) rfl rfl Try.func8 (by kernel_rfl) rfl #[] rfl (by (try simp only [List.map_toArray, List.map_cons, List.map_nil]); first | done | rfl | (simp only [List.length_drop, List.length_take]; rfl)) ?_; (with_reducible refine (cubitlaw09_awake.calls k  true _ A3.out).mono ?_); rintro e w21 ⟨rfl, hb⟩; refine ⟨_, rfl, ?_⟩; have n0_ := Aside0.mk (below_step (by repeat (first | (with_reducible first | exact HB.out | apply below_alloc | apply pw_below_drewN | apply below_drew1) | exact HB.out)) hb); clear HB; have HB := n0_; clear n0_; (try clear hb); (try clear hb2); (try clear hk); (try clear hi)) | ((with_reducible refine gate_dst (N := 12) rfl ?_); (try (refine gate_guard (by rfl) ?_; dsimp only)); refine Kd.R_lit k31 _ 31 ?hg (N := 12) ?hd (xs := ([] : List (S31))) (inner := []) (ok := fun _ => True) (okp := fun _ => True) ?hr ?hp (fun _ hk => hk) trivial (Below.refl _ _) (Nat.le_refl _) (by simp) ?_; (case hd => rfl); (case hg => rfl); (case hr => first | (go_simp; done) | (go_simp; rfl)); (case hp => exact (Reps.none _ _)); intro v262 w22 ho23 hb hg_ hnew_; clear hg_ hnew_; (first | rw [← Ny261.out] at ho23 | (simp only [Int.reduceToNat] at ho23; rw [← Ny261.out] at ho23)); have n0_ := Aside0.mk (Kd.R_lower ho23 (below_size (by repeat (first | (with_reducible first | exact HB.out | apply below_alloc | apply pw_below_drewN | apply below_drew1) | exact HB.out)))); have n1_ := Aside0.mk (below_step (by repeat (first | (with_reducible first | exact HB.out | apply below_alloc | apply pw_below_drewN | apply below_drew1) | exact HB.out)) hb); clear HB; have HO263 := n0_; have HB := n1_; clear n0_ n1_; clear hb ho23) | ((with_reducible refine gate_builtin (b := .append) (xs := #[.tmp 12, .tmp 13]) rfl ?_); (try (refine gate_guard (by rfl) ?_; dsimp only)); at_builtin; refine Kd.R_append_rows k31 (w0 := w) w.heap.size rfl (.tmp 12) (.tmp 13) 23 31 (.agg #[(.int .i64 0), (.string ⟨#[]⟩), (.int .i64 0)]) 32 rfl Try.underlying23 info31 rfl (by decide) (by omega) v262 y261 l1 _ _ _ (fun _ => True) (fun _ => False) rfl rfl ?aO ?aR (fun _ _ h => h) (fun _ h => h.elim) ?aF ?aB ?aS ?aL ?_; (case aR => repeat (first | exact (Kd.C_below HR1.out HB.out) | (with_reducible refine Kd.C_alloc ?_ _) | (with_reducible refine Kd.C_drewN ?_ _) | (with_reducible refine Kd.C_drew ?_))); (case aB => exact (by repeat (first | (with_reducible first | exact HB.out | apply below_alloc | apply pw_below_drewN | apply below_drew1) | exact HB.out))); (case aF => exact (fun _ _ => trivial)); (case aO => exact (by (with_reducible repeat (first | apply Kd.R_alloc | apply Kd.R_drewN | apply Kd.R_drew)); exact HO263.out)); (case aS => exact (below_size (by repeat (first | (with_reducible first | exact HB.out | apply below_alloc | apply pw_below_drewN | apply below_drew1) | exact HB.out)))); (case aL => have := LMc5.out; omega); intro v265 w24 ho hb hg hat; rw [← Ny264.out] at ho; have n0_ := Aside0.mk (hb); have n1_ := Aside0.mk (ho); clear HB; clear HO263; have HB := n0_; have HO266 := n1_; clear n0_ n1_; clear ho hb hg hat) | ((with_reducible refine gate_builtin (b := .append) (xs := #[.tmp 14, .tmp 16]) rfl ?_); (try (refine gate_guard (by rfl) ?_; dsimp only)); at_builtin; refine Kd.R_append k31 (w0 := w) w.heap.size rfl (.tmp 14) (.tmp 16) 23 31 (.agg #[(.int .i64 0), (.string ⟨#[]⟩), (.int .i64 0)]) 32 rfl Try.underlying23 info31 rfl (by decide) (by omega) v265 y264 (⟨77, (⟨#[]⟩ : ByteArray), 0⟩ : S31) [.int .i64 77, .string (⟨#[]⟩ : ByteArray), .int .i64 0] (fun _ => True) (fun _ => False) rfl rfl ?aP (fun _ hk => hk.elim) ?aF ?aO ?aB ?aS ?aL ?_; (case aP => exact k31_mkM _ _ _ (⟨77, (⟨#[]⟩ : ByteArray), 0⟩ : S31)); (case aB => exact (by repeat (first | (with_reducible first | exact HB.out | apply below_alloc | apply pw_below_drewN | apply below_drew1) | exact HB.out))); (case aF => exact (fun _ _ => trivial)); (case aO => exact (by (with_reducible repeat (first | apply Kd.R_alloc | apply Kd.R_drewN | apply Kd.R_drew)); exact HO266.out)); (case aS => exact (below_size (by repeat (first | (with_reducible first | exact HB.out | apply below_alloc | apply pw_below_drewN | apply below_drew1) | exact HB.out)))); (case aL => have := LMc6.out; omega); intro v268 w25 ho hb hg hat; rw [← Ny267.out] at ho; have n0_ := Aside0.mk (hb); have n1_ := Aside0.mk (ho); clear HB; clear HO266; have HB := n0_; have HO269 := n1_; clear n0_ n1_; clear ho hb hg hat) | ((with_reducible refine gate_callee (f := 13) rfl ?_); refine goesL_ (some 20) rfl rfl Try.func13 (by kernel_rfl) rfl #[.slice A1 l1.length c1] rfl (by (try simp only [List.map_toArray, List.map_cons, List.map_nil]); first | done | rfl | (simp only [List.length_drop, List.length_take]; rfl)) ?_; (with_reducible refine (cubitref09_Join.calls k _ _ l1 t270 t271 _ ?side1 ?side2 A7.out).mono ?_); (case side1 => repeat (first | exact (Kd.C_below HR1.out HB.out) | (with_reducible refine Kd.C_alloc ?_ _) | (with_reducible refine Kd.C_drewN ?_ _) | (with_reducible refine Kd.C_drew ?_))); (case side2 => exact HC1.out); rintro e w26 ⟨rfl, hb⟩; refine ⟨_, rfl, ?_⟩; have n0_ := Aside0.mk (Kd.R_below (by (with_reducible repeat (first | apply Kd.R_alloc | apply Kd.R_drewN | apply Kd.R_drew)); exact HO269.out) hb); have n1_ := Aside0.mk (below_step (by repeat (first | (with_reducible first | exact HB.out | apply below_alloc | apply pw_below_drewN | apply below_drew1) | exact HB.out)) hb); clear HO269; clear HB; have HO269 := n0_; have HB := n1_; clear n0_ n1_; (try clear hb); (try clear hb2); (try clear hk); (try clear hi); obtain ⟨Ao28, co28, eo28⟩ := Kd.R_slice HO269.out; subst eo28; have q27 : ((l1.length : Int) : Int) ≤ ((y267.length : Int) : Int) := of_decide_eq_true (by first | (with_reducible assumption) | assumption); obtain ⟨i027, hi027, _, hsz27, _⟩ := info_parts info31; have hroom27 : y267.length ≤ co28 := (Kd.R_reads' HO269.out).2.1; have hC27 : Kd.C k31 _ Ao28 y267.length y267 := (Kd.R_reads' HO269.out).2.2; have hcut27 := cut_to (P := Try.prog) 23 31 .i64 Try.underlying23 hi027 Ao28 y267.length co28 (l1.length : Int) (of_decide_eq_true (by first | (with_reducible assumption) | assumption)) q27 hroom27; have hr27 := Kd.C_take (m := ((l1.length : Int) : Int).toNat) hC27 (by omega); have hy27 : y272.length = ((l1.length : Int) : Int).toNat := (by rw [Ny272.out, List.length_take]; omega); rw [← Ny272.out] at hr27; rw [← hy27] at hcut27; have HR275 := Aside0.mk hr27; have HC275 := Aside0.mk (show y272.length ≤ co28 from by omega); clear hr27 hC27 hroom27 hi027 hsz27; have KY27 := Aside0.mk hy27; clear hy27; have KL27 := Aside0.mk (show ((l1.length : Int) : Int).toNat ≤ y267.length from by omega); replace q27 := eq_true q27) | ((with_reducible refine gate_callee (f := 14) rfl ?_); refine goesL_ (some 28) rfl rfl Try.func14 (by kernel_rfl) rfl #[.slice Ao28 y272.length co28] rfl (by (try simp only [List.map_toArray, List.map_cons, List.map_nil]); first | done | rfl | (simp only [List.length_drop, List.length_take]; rfl)) ?_; (with_reducible refine (lex_Join.calls k _ _ y272 t276 t277 _ ?side1 ?side2 A10.out).mono ?_); (case side1 => repeat (first | exact (by repeat (first | (with_reducible exact HR275.out) | (with_reducible refine Kd.C_alloc ?_ _) | (with_reducible refine Kd.C_drewN ?_ _) | (with_reducible refine Kd.C_drew ?_) | exact HR275.out)) | (with_reducible refine Kd.C_alloc ?_ _) | (with_reducible refine Kd.C_drewN ?_ _) | (with_reducible refine Kd.C_drew ?_))); (case side2 => exact HC275.out); rintro e w29 ⟨rfl, hb⟩; refine ⟨_, rfl, ?_⟩; have n0_ := Aside0.mk (Kd.R_below (by (with_reducible repeat (first | apply Kd.R_alloc | apply Kd.R_drewN | apply Kd.R_drew)); exact HO269.out) hb); have n1_ := Aside0.mk (Kd.C_below (by repeat (first | (with_reducible exact HR275.out) | (with_reducible refine Kd.C_alloc ?_ _) | (with_reducible refine Kd.C_drewN ?_ _) | (with_reducible refine Kd.C_drew ?_) | exact HR275.out)) hb); have n2_ := Aside0.mk (below_step (by repeat (first | (with_reducible first | exact HB.out | apply below_alloc | apply pw_below_drewN | apply below_drew1) | exact HB.out)) hb); clear HO269; clear HR275; clear HB; have HO269 := n0_; have HR275 := n1_; have HB := n2_; clear n0_ n1_ n2_; (try clear hb); (try clear hb2); (try clear hk); (try clear hi)) | (go_at_call 15; (with_reducible refine (lex_IsName.calls k a0 t278 _ A13.out).mono ?_); rintro e w' ⟨rfl, ⟨nd, rfl⟩⟩) | (go_at_call 16; (with_reducible refine (cubitref09_IsName.calls k a0 t279 _ A14.out).mono ?_); rintro e w' ⟨rfl, ⟨nd, rfl⟩⟩; have q30 : ((l1.length : Int) : Int) ≤ ((y267.length : Int) : Int) := of_decide_eq_true (by first | (with_reducible assumption) | assumption); obtain ⟨i030, hi030, _, hsz30, _⟩ := info_parts info31; have hroom30 : y267.length ≤ co28 := (Kd.R_reads' HO269.out).2.1; have hC30 : Kd.C k31 _ Ao28 y267.length y267 := (Kd.R_reads' HO269.out).2.2; have hcut30 := cut_to (P := Try.prog) 23 31 .i64 Try.underlying23 hi030 Ao28 y267.length co28 (l1.length : Int) (of_decide_eq_true (by first | (with_reducible assumption) | assumption)) q30 hroom30; have hr30 := Kd.C_take (m := ((l1.length : Int) : Int).toNat) hC30 (by omega); have hy30 : y272.length = ((l1.length : Int) : Int).toNat := (by rw [Ny280.out, List.length_take]; omega); rw [← Ny280.out] at hr30; rw [← hy30] at hcut30; have HR283 := Aside0.mk hr30; have HC283 := Aside0.mk (show y272.length ≤ co28 from by omega); clear hr30 hC30 hroom30 hi030 hsz30; have KY30 := Aside0.mk hy30; clear hy30; have KL30 := Aside0.mk (show ((l1.length : Int) : Int).toNat ≤ y267.length from by omega); replace q30 := eq_true q30) | (go_at_call 11; (with_reducible refine (cubitlaw09_same.calls k _ _ y272 _ _ l1 true _ ?side1 ?side2 ?side3 ?side4 A18.out).mono ?_); (case side1 => repeat (first | exact (by repeat (first | (with_reducible exact HR283.out) | (with_reducible refine Kd.C_alloc ?_ _) | (with_reducible refine Kd.C_drewN ?_ _) | (with_reducible refine Kd.C_drew ?_) | exact HR283.out)) | (with_reducible refine Kd.C_alloc ?_ _) | (with_reducible refine Kd.C_drewN ?_ _) | (with_reducible refine Kd.C_drew ?_))); (case side2 => exact HC283.out); (case side3 => repeat (first | exact (Kd.C_below HR1.out (by repeat (first | (with_reducible first | exact HB.out | apply below_alloc | apply pw_below_drewN | apply below_drew1) | exact HB.out))) | (with_reducible refine Kd.C_alloc ?_ _) | (with_reducible refine Kd.C_drewN ?_ _) | (with_reducible refine Kd.C_drew ?_))); (case side4 => exact HC1.out); rintro e w' ⟨rfl, ⟨nd, rfl⟩⟩; have p285 : 0 ≤ ((l1.length : Int) : Int) := of_decide_eq_true (by first | (with_reducible assumption) | assumption); have q285 : (l1.length : Int) < (y267.length : Int) := of_decide_eq_true (by first | (with_reducible assumption) | assumption); obtain ⟨ad285, e285, hx285_0, hx285_1, hx285_2⟩ := at_T31 (Kd.R_reads' HO269.out).2.2 (l1.length : Int) p285 q285; cases e285; (try simp only [Go.IntWalk.toNatUp] at hx285_0); (try simp only [Go.IntWalk.toNatUp] at hx285_1); (try simp only [Go.IntWalk.toNatUp] at hx285_2); replace p285 := eq_true p285; replace q285 := eq_true q285))
                      go_ret
                      exact ⟨by first | rfl | (simp [errW_none, errW_some] <;> rfl) | (simp [*, errW_none, errW_some] <;> rfl), by repeat (first | (with_reducible first | exact HB.out | apply below_alloc | apply pw_below_drewN | apply below_drew1) | exact HB.out)⟩
                    · rw [if_neg c20] at H
                      exact absurd H (by simp)
                  · replace c19 := Bool.eq_false_iff.mpr c19
                    subst c19
                    have H1 : (some false) = some r := by rw [if_neg (show ¬ (false = true) by decide)] at H; exact H
                    clear H
                    have H := H1
                    clear H1
                    exact absurd (HTRUE.out.symm.trans (Option.some.inj H).symm) (by decide)
                · rw [if_neg c15] at H
                  have c15b0 : (t278 == t279) = false := by simpa using c15
                  (try (have c15b1 : decide (t278 = t279) = false := by simpa using c15))
                  (try (have c15b2 : (t278 == t279) = false := by simpa using c15))
                  (try (have c15b3 : ¬ (t278 = t279) := by simpa using c15))
                  clear c15
                  exact absurd (HTRUE.out.symm.trans (Option.some.inj H).symm) (by decide)
              · rw [if_neg c12] at H
                have c12b0 : (t277 == t271) = false := beq_eq_false_iff_ne.mpr c12
                have c12b1 : (t277 != t271) = true := bne_iff_ne.mpr c12
                exact absurd (HTRUE.out.symm.trans (Option.some.inj H).symm) (by decide)
            · rw [if_neg c11] at H
              have c11b0 : (t276.toList == t270.toList) = false := beq_eq_false_iff_ne.mpr c11
              have c11b1 : (t276.toList != t270.toList) = true := bne_iff_ne.mpr c11
              exact absurd (HTRUE.out.symm.trans (Option.some.inj H).symm) (by decide)
          · rw [if_neg c9] at H
            exact absurd H (by simp)
        · rw [if_neg c8] at H
          exact absurd H (by simp)
      · rw [if_neg c6] at H
        exact absurd H (by simp)
    · rw [if_neg c5] at H
      exact absurd H (by simp)
  · replace c4 := Bool.eq_false_iff.mpr c4
    subst c4
    have H1 : (some false) = some r := by rw [if_neg (show ¬ (false = true) by decide)] at H; exact H
    clear H
    have H := H1
    clear H1
    exact absurd (HTRUE.out.symm.trans (Option.some.inj H).symm) (by decide)

/-- THE ONE PURE STATEMENT of cubitlaw09_LexJoins: yours. -/
def cubitlaw09_LexJoins.Pure : Prop := ∀ (a0 : ByteArray) (l1 : List (S31)), a0.size ≤ 140737488351232 → l1.length * 32 ≤ 140737488351232 → (∀ u ∈ l1, ((Lit.int .i64 u.f0).wf = true) ∧ (u.f1.size ≤ 140737488351232) ∧ ((Lit.int .i64 u.f2).wf = true)) → (a0.size + 1) + ((l1.map fun v0 => ((1 + ((v0.f1.size + 1) + 1)) + 1)).sum + 1) ≤ 1048576 → ∃ k, cubitlaw09_LexJoins.f k a0 l1 = some true
theorem cubitlaw09_LexJoins.walk (P : cubitlaw09_LexJoins.Pure) (a0 : ByteArray) (A1 : Option Addr) (c1 : Nat) (l1 : List (S31)) (w : World) (w0 : a0.size ≤ 140737488351232) (hr1 : Kd.C k31 w A1 l1.length l1) (hc1 : l1.length ≤ c1) (y1 : l1.length * 32 ≤ 140737488351232) (w1 : ∀ u ∈ l1, ((Lit.int .i64 u.f0).wf = true) ∧ (u.f1.size ≤ 140737488351232) ∧ ((Lit.int .i64 u.f2).wf = true)) (hup : (a0.size + 1) + ((l1.map fun v0 => ((1 + ((v0.f1.size + 1) + 1)) + 1)).sum + 1) ≤ 1048576) :
    Calls Try.prog 6 #[.string a0, .slice A1 l1.length c1] w fun e w' => e = .returned (.bool true) ∧ Below w.heap.size w w' := by
  obtain ⟨k, h⟩ := P a0 l1 w0 y1 w1 hup
  refine (cubitlaw09_LexJoins.calls k a0 _ _ l1 true w hr1 hc1 h rfl).mono ?_
  rintro e w' ⟨rfl, hd⟩
  exact ⟨rfl, hd⟩

end Go.Proofs.Ytkonklmgkkbnmaa.PA
