/- Printed for this claim by a program of the session: contracts of Go functions: a call answers what its Lean function tells, wherever that tells something. -/
import Derived.Test.YtkonklmgkkbnmaaPAx0
import Derived.Test.YtkonklmgkkbnmaaPAx3
import Derived.Test.YtkonklmgkkbnmaaPAx13
namespace Go.Proofs.Ytkonklmgkkbnmaa.PA
open Go.RowKit Go.Proofs.YtkonklmgkkbnmaaW.PrintWords Go.Proofs.YtkonklmgkkbnmaaW.PrintLast Go.Proofs.YtkonklmgkkbnmaaW.PrintMore
attribute [local go_sem] max2_int min2_int max_two min_two max_three min_three max_four min_four   -- for this text's walks alone
set_option linter.unusedVariables false
set_option linter.unusedSimpArgs false

/-! ### cubitlaw09_LexBack: function 7 -/
mutual
def cubitlaw09_LexBack.j2 : Nat → ByteArray → Option (Bool)
  | 0, _ => none
  | k + 1, x0 => (lex_Scan.f k x0).bind fun bt298 => (if bt298.2.2 = 0 then (cubitlaw09_LexBack.l1 k bt298.1 (wrap64 ((bt298.1.length : Int) - 1)) 0) else (some true))
def cubitlaw09_LexBack.l1 : Nat → List (S31) → Int → Int → Option (Bool)
  | 0, _, _, _ => none
  | k + 1, x11, x14, x15 => if x15 < (x11.length : Int) then (if 0 ≤ x15 then (cubitlaw09_LexBack.l1 k x11 (wrap64 (x14 + (((rd_T31 x11 x15).f1).size : Int))) (wrap64 (x15 + 1))) else (none)) else ((lex_Join.f k x11).bind fun bt304 => (if bt304.2 = 0 then (cubitlaw09_LexBack.j4 k x11 x14 bt304.1 bt304.2 (decide (x14 > 65536))) else (cubitlaw09_LexBack.j4 k x11 x14 bt304.1 bt304.2 true)))
def cubitlaw09_LexBack.j4 : Nat → List (S31) → Int → ByteArray → Int → Bool → Option (Bool)
  | 0, _, _, _, _, _ => none
  | k + 1, x11, x14, x16, x17, x112 => if x112 = true then (if x17 = 1 then (some (decide (x14 > 65536))) else (some false)) else ((lex_Scan.f k x16).bind fun bt306 => ((lex_Join.f k bt306.1).bind fun bt311 => (if bt306.2.2 = 0 then (if bt311.2 = 0 then (if bt311.1.toList = x16.toList then (some ((bt306.1.length : Int) == (x11.length : Int))) else (some false)) else (some false)) else (some false))))
def cubitlaw09_LexBack.j0 : Nat → ByteArray → List (S31) → List (S31) → Bool → Option (Bool)
  | 0, _, _, _, _ => none
  | k + 1, x0, x1, x7, x46 => if x46 = true then (some false) else (cubitlaw09_LexBack.l0 k x0 x1 x7 0)
def cubitlaw09_LexBack.l0 : Nat → ByteArray → List (S31) → List (S31) → Int → Option (Bool)
  | 0, _, _, _, _ => none
  | k + 1, x0, x1, x7, x10 => if x10 < (x7.length : Int) then (if 0 ≤ x10 then (if x10 < (x1.length : Int) then (if ((rd_T31 x7 x10).f0) = ((rd_T31 x1 x10).f0) then (if ((rd_T31 x7 x10).f1).toList = ((rd_T31 x1 x10).f1).toList then (cubitlaw09_LexBack.l0 k x0 x1 x7 (wrap64 (x10 + 1))) else (some false)) else (some false)) else (none)) else (none)) else (cubitlaw09_LexBack.j2 k x0)
end
def cubitlaw09_LexBack.f (k : Nat) (a0 : ByteArray) (l1 : List (S31)) : Option (Bool) := (cubitlaw09_awake.f k).bind fun t286 => (if t286 = true then ((lex_Join.f k l1).bind fun bt287 => (if bt287.2 = 0 then ((lex_Scan.f k bt287.1).bind fun bt289 => (if bt289.2.2 = 0 then (cubitlaw09_LexBack.j0 k a0 l1 bt289.1 ((bt289.1.length : Int) != (l1.length : Int))) else (cubitlaw09_LexBack.j0 k a0 l1 bt289.1 true))) else (cubitlaw09_LexBack.j2 k a0))) else (some false))
theorem cubitlaw09_LexBack.mono_l : ∀ k, (∀ y0, LeO (cubitlaw09_LexBack.j2 k y0) (cubitlaw09_LexBack.j2 (k + 1) y0)) ∧ (∀ y0 y1 y2, LeO (cubitlaw09_LexBack.l1 k y0 y1 y2) (cubitlaw09_LexBack.l1 (k + 1) y0 y1 y2)) ∧ (∀ y0 y1 y2 y3 y4, LeO (cubitlaw09_LexBack.j4 k y0 y1 y2 y3 y4) (cubitlaw09_LexBack.j4 (k + 1) y0 y1 y2 y3 y4)) ∧ (∀ y0 y1 y2 y3, LeO (cubitlaw09_LexBack.j0 k y0 y1 y2 y3) (cubitlaw09_LexBack.j0 (k + 1) y0 y1 y2 y3)) ∧ (∀ y0 y1 y2 y3, LeO (cubitlaw09_LexBack.l0 k y0 y1 y2 y3) (cubitlaw09_LexBack.l0 (k + 1) y0 y1 y2 y3))
  | 0 => ⟨fun _ r h => by simp [cubitlaw09_LexBack.j2] at h, fun _ _ _ r h => by simp [cubitlaw09_LexBack.l1] at h, fun _ _ _ _ _ r h => by simp [cubitlaw09_LexBack.j4] at h, fun _ _ _ _ r h => by simp [cubitlaw09_LexBack.j0] at h, fun _ _ _ _ r h => by simp [cubitlaw09_LexBack.l0] at h⟩
  | k + 1 => by
    obtain ⟨ih0, ih1, ih2, ih3, ih4⟩ := cubitlaw09_LexBack.mono_l k
    refine ⟨?_, ?_, ?_, ?_, ?_⟩
    · intro y0
      unfold cubitlaw09_LexBack.j2
      repeat' first
      | (with_reducible exact ih0 _)
      | (with_reducible exact ih1 _ _ _)
      | (with_reducible exact ih2 _ _ _ _ _)
      | (with_reducible exact ih3 _ _ _ _)
      | (with_reducible exact ih4 _ _ _ _)
      | (with_reducible exact cubitlaw09_awake.mono _)
      | (with_reducible exact lex_Join.mono _ _)
      | (with_reducible exact lex_Scan.mono _ _)
      | (with_reducible exact LeO.refl _)
      | (with_reducible exact LeO.none _)
      | (with_reducible refine LeO.ite ?_ ?_)
      | (with_reducible refine LeO.bind ?_ (fun _ => ?_))
      | exact ih0 _
      | exact ih1 _ _ _
      | exact ih2 _ _ _ _ _
      | exact ih3 _ _ _ _
      | exact ih4 _ _ _ _
      | exact cubitlaw09_awake.mono _
      | exact lex_Join.mono _ _
      | exact lex_Scan.mono _ _
      | exact LeO.none _
      | refine LeO.ite ?_ ?_
      | refine LeO.bind ?_ (fun _ => ?_)
    · intro y0 y1 y2
      unfold cubitlaw09_LexBack.l1
      repeat' first
      | (with_reducible exact ih0 _)
      | (with_reducible exact ih1 _ _ _)
      | (with_reducible exact ih2 _ _ _ _ _)
      | (with_reducible exact ih3 _ _ _ _)
      | (with_reducible exact ih4 _ _ _ _)
      | (with_reducible exact cubitlaw09_awake.mono _)
      | (with_reducible exact lex_Join.mono _ _)
      | (with_reducible exact lex_Scan.mono _ _)
      | (with_reducible exact LeO.refl _)
      | (with_reducible exact LeO.none _)
      | (with_reducible refine LeO.ite ?_ ?_)
      | (with_reducible refine LeO.bind ?_ (fun _ => ?_))
      | exact ih0 _
      | exact ih1 _ _ _
      | exact ih2 _ _ _ _ _
      | exact ih3 _ _ _ _
      | exact ih4 _ _ _ _
      | exact cubitlaw09_awake.mono _
      | exact lex_Join.mono _ _
      | exact lex_Scan.mono _ _
      | exact LeO.none _
      | refine LeO.ite ?_ ?_
      | refine LeO.bind ?_ (fun _ => ?_)
    · intro y0 y1 y2 y3 y4
      unfold cubitlaw09_LexBack.j4
      repeat' first
      | (with_reducible exact ih0 _)
      | (with_reducible exact ih1 _ _ _)
      | (with_reducible exact ih2 _ _ _ _ _)
      | (with_reducible exact ih3 _ _ _ _)
      | (with_reducible exact ih4 _ _ _ _)
      | (with_reducible exact cubitlaw09_awake.mono _)
      | (with_reducible exact lex_Join.mono _ _)
      | (with_reducible exact lex_Scan.mono _ _)
      | (with_reducible exact LeO.refl _)
      | (with_reducible exact LeO.none _)
      | (with_reducible refine LeO.ite ?_ ?_)
      | (with_reducible refine LeO.bind ?_ (fun _ => ?_))
      | exact ih0 _
      | exact ih1 _ _ _
      | exact ih2 _ _ _ _ _
      | exact ih3 _ _ _ _
      | exact ih4 _ _ _ _
      | exact cubitlaw09_awake.mono _
      | exact lex_Join.mono _ _
      | exact lex_Scan.mono _ _
      | exact LeO.none _
      | refine LeO.ite ?_ ?_
      | refine LeO.bind ?_ (fun _ => ?_)
    · intro y0 y1 y2 y3
      unfold cubitlaw09_LexBack.j0
      repeat' first
      | (with_reducible exact ih0 _)
      | (with_reducible exact ih1 _ _ _)
      | (with_reducible exact ih2 _ _ _ _ _)
      | (with_reducible exact ih3 _ _ _ _)
      | (with_reducible exact ih4 _ _ _ _)
      | (with_reducible exact cubitlaw09_awake.mono _)
      | (with_reducible exact lex_Join.mono _ _)
      | (with_reducible exact lex_Scan.mono _ _)
      | (with_reducible exact LeO.refl _)
      | (with_reducible exact LeO.none _)
      | (with_reducible refine LeO.ite ?_ ?_)
      | (with_reducible refine LeO.bind ?_ (fun _ => ?_))
      | exact ih0 _
      | exact ih1 _ _ _
      | exact ih2 _ _ _ _ _
      | exact ih3 _ _ _ _
      | exact ih4 _ _ _ _
      | exact cubitlaw09_awake.mono _
      | exact lex_Join.mono _ _
      | exact lex_Scan.mono _ _
      | exact LeO.none _
      | refine LeO.ite ?_ ?_
      | refine LeO.bind ?_ (fun _ => ?_)
    · intro y0 y1 y2 y3
      unfold cubitlaw09_LexBack.l0
      repeat' first
      | (with_reducible exact ih0 _)
      | (with_reducible exact ih1 _ _ _)
      | (with_reducible exact ih2 _ _ _ _ _)
      | (with_reducible exact ih3 _ _ _ _)
      | (with_reducible exact ih4 _ _ _ _)
      | (with_reducible exact cubitlaw09_awake.mono _)
      | (with_reducible exact lex_Join.mono _ _)
      | (with_reducible exact lex_Scan.mono _ _)
      | (with_reducible exact LeO.refl _)
      | (with_reducible exact LeO.none _)
      | (with_reducible refine LeO.ite ?_ ?_)
      | (with_reducible refine LeO.bind ?_ (fun _ => ?_))
      | exact ih0 _
      | exact ih1 _ _ _
      | exact ih2 _ _ _ _ _
      | exact ih3 _ _ _ _
      | exact ih4 _ _ _ _
      | exact cubitlaw09_awake.mono _
      | exact lex_Join.mono _ _
      | exact lex_Scan.mono _ _
      | exact LeO.none _
      | refine LeO.ite ?_ ?_
      | refine LeO.bind ?_ (fun _ => ?_)
theorem cubitlaw09_LexBack.mono : ∀ a0 a1 k, LeO (cubitlaw09_LexBack.f k a0 a1) (cubitlaw09_LexBack.f (k + 1) a0 a1) := by
  intro a0 a1 k
  obtain ⟨ih0, ih1, ih2, ih3, ih4⟩ := cubitlaw09_LexBack.mono_l k
  unfold cubitlaw09_LexBack.f
  repeat' first
      | (with_reducible exact ih0 _)
      | (with_reducible exact ih1 _ _ _)
      | (with_reducible exact ih2 _ _ _ _ _)
      | (with_reducible exact ih3 _ _ _ _)
      | (with_reducible exact ih4 _ _ _ _)
      | (with_reducible exact cubitlaw09_awake.mono _)
      | (with_reducible exact lex_Join.mono _ _)
      | (with_reducible exact lex_Scan.mono _ _)
      | (with_reducible exact LeO.refl _)
      | (with_reducible exact LeO.none _)
      | (with_reducible refine LeO.ite ?_ ?_)
      | (with_reducible refine LeO.bind ?_ (fun _ => ?_))
      | exact ih0 _
      | exact ih1 _ _ _
      | exact ih2 _ _ _ _ _
      | exact ih3 _ _ _ _
      | exact ih4 _ _ _ _
      | exact cubitlaw09_awake.mono _
      | exact lex_Join.mono _ _
      | exact lex_Scan.mono _ _
      | exact LeO.none _
      | refine LeO.ite ?_ ?_
      | refine LeO.bind ?_ (fun _ => ?_)
set_option maxHeartbeats 8000000 in
set_option maxRecDepth 100000 in
theorem cubitlaw09_LexBack.calls (k : Nat) (a0 : ByteArray) (A1 : Option Addr) (c1 : Nat) (l1 : List (S31)) (r : Bool) (w : World) (hr1 : Kd.C k31 w A1 l1.length l1) (hc1 : l1.length ≤ c1) (h : cubitlaw09_LexBack.f k a0 l1 = some r) (htrue : r = true) :
    Calls Try.prog 7 #[.string a0, .slice A1 l1.length c1] w fun e w' => e = .returned (.bool r) ∧ Below w.heap.size w w' := by
  have HR1 := Aside0.mk hr1
  have HC1 := Aside0.mk hc1
  clear hr1 hc1
  have HB := Aside0.mk (Below.refl w.heap.size w)
  have HTRUE := Aside0.mk htrue
  clear htrue
  have H : ((cubitlaw09_awake.f k).bind fun t286 => (if t286 = true then ((lex_Join.f k l1).bind fun bt287 => (if bt287.2 = 0 then ((lex_Scan.f k bt287.1).bind fun bt289 => (if bt289.2.2 = 0 then (cubitlaw09_LexBack.j0 k a0 l1 bt289.1 ((bt289.1.length : Int) != (l1.length : Int))) else (cubitlaw09_LexBack.j0 k a0 l1 bt289.1 true))) else (cubitlaw09_LexBack.j2 k a0))) else (some false))) = some r := h
  clear h
  replace H := Option.bind_eq_some_iff.mp H
  obtain ⟨t286, A30, H⟩ := H
  replace H : (if t286 = true then ((lex_Join.f k l1).bind fun bt287 => (if bt287.2 = 0 then ((lex_Scan.f k bt287.1).bind fun bt289 => (if bt289.2.2 = 0 then (cubitlaw09_LexBack.j0 k a0 l1 bt289.1 ((bt289.1.length : Int) != (l1.length : Int))) else (cubitlaw09_LexBack.j0 k a0 l1 bt289.1 true))) else (cubitlaw09_LexBack.j2 k a0))) else (some false)) = some r := H
  have A3 := Aside0.mk A30
  clear A30
  by_cases c4 : t286 = true
  · subst c4
    have H1 : ((lex_Join.f k l1).bind fun bt287 => (if bt287.2 = 0 then ((lex_Scan.f k bt287.1).bind fun bt289 => (if bt289.2.2 = 0 then (cubitlaw09_LexBack.j0 k a0 l1 bt289.1 ((bt289.1.length : Int) != (l1.length : Int))) else (cubitlaw09_LexBack.j0 k a0 l1 bt289.1 true))) else (cubitlaw09_LexBack.j2 k a0))) = some r := by rw [if_pos rfl] at H; exact H
    clear H
    have H := H1
    clear H1
    replace H := Option.bind_eq_some_iff.mp H
    obtain ⟨⟨t287, t288⟩, A50, H⟩ := H
    replace H : (if t288 = 0 then ((lex_Scan.f k t287).bind fun bt289 => (if bt289.2.2 = 0 then (cubitlaw09_LexBack.j0 k a0 l1 bt289.1 ((bt289.1.length : Int) != (l1.length : Int))) else (cubitlaw09_LexBack.j0 k a0 l1 bt289.1 true))) else (cubitlaw09_LexBack.j2 k a0)) = some r := H
    have A5 := Aside0.mk A50
    clear A50
    have HC6 := Aside0.mk H
    clear H
    go_enter Try.func7, Try.ntmps7
    go_upto_if 31 with (first | (go_at_call 8; (with_reducible refine (cubitlaw09_awake.calls k  true _ A3.out).mono ?_); rintro e w7 ⟨rfl, hb⟩; have n0_ := Aside0.mk (below_step (by repeat (first | (with_reducible first | exact HB.out | apply below_alloc | apply pw_below_drewN | apply below_drew1) | exact HB.out)) hb); clear HB; have HB := n0_; clear n0_; (try clear hb); (try clear hb2); (try clear hk); (try clear hi)) | (go_at_call 14; (with_reducible refine (lex_Join.calls k _ _ l1 t287 t288 _ ?side1 ?side2 A5.out).mono ?_); (case side1 => repeat (first | exact (Kd.C_below HR1.out HB.out) | (with_reducible refine Kd.C_alloc ?_ _) | (with_reducible refine Kd.C_drewN ?_ _) | (with_reducible refine Kd.C_drew ?_))); (case side2 => exact HC1.out); rintro e w8 ⟨rfl, hb⟩; have n0_ := Aside0.mk (below_step (by repeat (first | (with_reducible first | exact HB.out | apply below_alloc | apply pw_below_drewN | apply below_drew1) | exact HB.out)) hb); clear HB; have HB := n0_; clear n0_; (try clear hb); (try clear hb2); (try clear hk); (try clear hi)))
    repeat (go_quiet (first | (go_at_call 8; (with_reducible refine (cubitlaw09_awake.calls k  true _ A3.out).mono ?_); rintro e w7 ⟨rfl, hb⟩; have n0_ := Aside0.mk (below_step (by repeat (first | (with_reducible first | exact HB.out | apply below_alloc | apply pw_below_drewN | apply below_drew1) | exact HB.out)) hb); clear HB; have HB := n0_; clear n0_; (try clear hb); (try clear hb2); (try clear hk); (try clear hi)) | (go_at_call 14; (with_reducible refine (lex_Join.calls k _ _ l1 t287 t288 _ ?side1 ?side2 A5.out).mono ?_); (case side1 => repeat (first | exact (Kd.C_below HR1.out HB.out) | (with_reducible refine Kd.C_alloc ?_ _) | (with_reducible refine Kd.C_drewN ?_ _) | (with_reducible refine Kd.C_drew ?_))); (case side2 => exact HC1.out); rintro e w8 ⟨rfl, hb⟩; have n0_ := Aside0.mk (below_step (by repeat (first | (with_reducible first | exact HB.out | apply below_alloc | apply pw_below_drewN | apply below_drew1) | exact HB.out)) hb); clear HB; have HB := n0_; clear n0_; (try clear hb); (try clear hb2); (try clear hk); (try clear hi))); go_upto_if 31 with (first | (go_at_call 8; (with_reducible refine (cubitlaw09_awake.calls k  true _ A3.out).mono ?_); rintro e w7 ⟨rfl, hb⟩; have n0_ := Aside0.mk (below_step (by repeat (first | (with_reducible first | exact HB.out | apply below_alloc | apply pw_below_drewN | apply below_drew1) | exact HB.out)) hb); clear HB; have HB := n0_; clear n0_; (try clear hb); (try clear hb2); (try clear hk); (try clear hi)) | (go_at_call 14; (with_reducible refine (lex_Join.calls k _ _ l1 t287 t288 _ ?side1 ?side2 A5.out).mono ?_); (case side1 => repeat (first | exact (Kd.C_below HR1.out HB.out) | (with_reducible refine Kd.C_alloc ?_ _) | (with_reducible refine Kd.C_drewN ?_ _) | (with_reducible refine Kd.C_drew ?_))); (case side2 => exact HC1.out); rintro e w8 ⟨rfl, hb⟩; have n0_ := Aside0.mk (below_step (by repeat (first | (with_reducible first | exact HB.out | apply below_alloc | apply pw_below_drewN | apply below_drew1) | exact HB.out)) hb); clear HB; have HB := n0_; clear n0_; (try clear hb); (try clear hb2); (try clear hk); (try clear hi))))
    (try simp only [Act.put, List.setIfInBounds_toArray, List.set_cons_zero, List.set_cons_succ])
    go_cut [] (fun wc => ∃ (kq : Nat), Aside0 (cubitlaw09_LexBack.j2 kq a0 = some r) ∧ Aside0 (kq ≤ k) ∧ Aside0 (Below w.heap.size w wc))
    case first =>
      have H := HC6.out
      clear HC6
      by_cases c9 : t288 = 0
      · rw [if_pos c9] at H
        have c9b0 : (t288 == 0) = true := beq_iff_eq.mpr c9
        have c9b1 : (t288 != 0) = false := bne_eq_false_iff_eq.mpr c9
        clear c9
        (first | rw [c9b0] | (simp only [i64_w, i32_w]; rw [c9b0]) | skip)
        replace H := Option.bind_eq_some_iff.mp H
        obtain ⟨⟨t289, t290, t291⟩, A100, H⟩ := H
        replace H : (if t291 = 0 then (cubitlaw09_LexBack.j0 k a0 l1 t289 ((t289.length : Int) != (l1.length : Int))) else (cubitlaw09_LexBack.j0 k a0 l1 t289 true)) = some r := H
        have A10 := Aside0.mk A100
        clear A100
        have HC11 := Aside0.mk H
        clear H
        go_upto_region 6 with (first | (go_at_call 10; (with_reducible refine (lex_Scan.calls k t287 t289 t290 t291 _ A10.out).mono ?_); rintro e w12 ⟨v292, rfl, ho0, hb⟩; have n0_ := Aside0.mk (Kd.R_lower ho0 (below_size (by repeat (first | (with_reducible first | exact HB.out | apply below_alloc | apply pw_below_drewN | apply below_drew1) | exact HB.out)))); have n1_ := Aside0.mk (below_step (by repeat (first | (with_reducible first | exact HB.out | apply below_alloc | apply pw_below_drewN | apply below_drew1) | exact HB.out)) hb); clear HB; have HO293 := n0_; have HB := n1_; clear n0_ n1_; (try clear hb); (try clear hb2); (try clear hk); (try clear hi); (try clear ho0)))
        repeat (go_quiet (first | (go_at_call 10; (with_reducible refine (lex_Scan.calls k t287 t289 t290 t291 _ A10.out).mono ?_); rintro e w12 ⟨v292, rfl, ho0, hb⟩; have n0_ := Aside0.mk (Kd.R_lower ho0 (below_size (by repeat (first | (with_reducible first | exact HB.out | apply below_alloc | apply pw_below_drewN | apply below_drew1) | exact HB.out)))); have n1_ := Aside0.mk (below_step (by repeat (first | (with_reducible first | exact HB.out | apply below_alloc | apply pw_below_drewN | apply below_drew1) | exact HB.out)) hb); clear HB; have HO293 := n0_; have HB := n1_; clear n0_ n1_; (try clear hb); (try clear hb2); (try clear hk); (try clear hi); (try clear ho0))); go_upto_region 6 with (first | (go_at_call 10; (with_reducible refine (lex_Scan.calls k t287 t289 t290 t291 _ A10.out).mono ?_); rintro e w12 ⟨v292, rfl, ho0, hb⟩; have n0_ := Aside0.mk (Kd.R_lower ho0 (below_size (by repeat (first | (with_reducible first | exact HB.out | apply below_alloc | apply pw_below_drewN | apply below_drew1) | exact HB.out)))); have n1_ := Aside0.mk (below_step (by repeat (first | (with_reducible first | exact HB.out | apply below_alloc | apply pw_below_drewN | apply below_drew1) | exact HB.out)) hb); clear HB; have HO293 := n0_; have HB := n1_; clear n0_ n1_; (try clear hb); (try clear hb2); (try clear hk); (try clear hi); (try clear ho0))))
        (try simp only [Act.put, List.setIfInBounds_toArray, List.set_cons_zero, List.set_cons_succ])
        go_cut [46] (fun v46 wc => ∃ (kq : Nat) (x46_10 : Bool), v46 = .bool x46_10 ∧ Aside0 (cubitlaw09_LexBack.j0 kq a0 l1 t289 x46_10 = some r) ∧ Aside0 (kq ≤ k) ∧ Aside0 (Kd.R k31 31 wc w.heap.size (fun _ => True) v292 t289) ∧ Aside0 (Below w.heap.size w wc))
        case first =>
          have H := HC11.out
          clear HC11
          by_cases c13 : t291 = 0
          · rw [if_pos c13] at H
            have c13b0 : (t291 == 0) = true := beq_iff_eq.mpr c13
            have c13b1 : (t291 != 0) = false := bne_eq_false_iff_eq.mpr c13
            clear c13
            (first | rw [c13b0] | (simp only [i64_w, i32_w]; rw [c13b0]) | skip)
            have H' := Aside0.mk H
            clear H
            obtain ⟨Ao14, co14, eo14⟩ := Kd.R_slice HO293.out
            subst eo14
            go_wp2
            repeat (go_quiet (fail); try go_wp2)
            go_meet
            case rel => exact ⟨_, (((t289.length : Int) != (l1.length : Int))), (by first | rfl | (simp; done) | (simp [*]; done)), H', ⟨by first | omega | exact Nat.le_refl _⟩, ⟨by (with_reducible repeat (first | apply Kd.R_alloc | apply Kd.R_drewN | apply Kd.R_drew)); exact HO293.out⟩, ⟨by repeat (first | (with_reducible first | exact HB.out | apply below_alloc | apply pw_below_drewN | apply below_drew1) | exact HB.out)⟩⟩
          · rw [if_neg c13] at H
            have c13b0 : (t291 == 0) = false := beq_eq_false_iff_ne.mpr c13
            have c13b1 : (t291 != 0) = true := bne_iff_ne.mpr c13
            (first | rw [c13b0] | (simp only [i64_w, i32_w]; rw [c13b0]) | skip)
            have H' := Aside0.mk H
            clear H
            go_wp2
            repeat (go_quiet (fail); try go_wp2)
            go_meet
            case rel => exact ⟨_, (true), (by first | rfl | (simp; done) | (simp [*]; done)), H', ⟨by first | omega | exact Nat.le_refl _⟩, ⟨by (with_reducible repeat (first | apply Kd.R_alloc | apply Kd.R_drewN | apply Kd.R_drew)); exact HO293.out⟩, ⟨by repeat (first | (with_reducible first | exact HB.out | apply below_alloc | apply pw_below_drewN | apply below_drew1) | exact HB.out)⟩⟩
        case rest =>
          clear HC11
          try clear c1
          try clear p2
          try clear c4
          try clear c7
          try clear c9
          try clear c9b0
          try clear c9b1
          try clear c13
          try clear c13b0
          try clear c13b1
          obtain ⟨kq, x46_10, rfl, HA, HJ10, HO_7, HB⟩ := hcut
          cases kq with
          | zero => exact absurd HA.out (by simp [cubitlaw09_LexBack.j0])
          | succ kj10 =>
            have H := HA.out
            clear HA
            simp only [cubitlaw09_LexBack.j0] at H
            by_cases c15 : x46_10 = true
            · subst c15
              have H1 : (some false) = some r := by rw [if_pos rfl] at H; exact H
              clear H
              have H := H1
              clear H1
              exact absurd (HTRUE.out.symm.trans (Option.some.inj H).symm) (by decide)
            · replace c15 := Bool.eq_false_iff.mpr c15
              subst c15
              have H1 : (cubitlaw09_LexBack.l0 kj10 a0 l1 t289 0) = some r := by rw [if_neg (show ¬ (false = true) by decide)] at H; exact H
              clear H
              have H := H1
              clear H1
              have H' := Aside0.mk H
              clear H
              go_wp2
              repeat (go_quiet (fail); try go_wp2)
              go_loopg [10] kj10 (fun kq v10 w' => ∃ (x10_2 : Int), v10 = .int .i64 x10_2 ∧ Aside0 (cubitlaw09_LexBack.l0 kq a0 l1 t289 x10_2 = some r) ∧ Aside0 (kq ≤ kj10) ∧ Aside0 (Kd.R k31 31 w' w.heap.size (fun _ => True) v292 t289) ∧ Aside0 (Below w.heap.size w w'))
              case atStart => exact ⟨(0), (by first | rfl | (simp; done) | (simp [*]; done)), H', ⟨Nat.le_refl _⟩, ⟨by (with_reducible repeat (first | apply Kd.R_alloc | apply Kd.R_drewN | apply Kd.R_drew)); exact HO_7.out⟩, ⟨by repeat (first | (with_reducible first | exact HB.out | apply below_alloc | apply pw_below_drewN | apply below_drew1) | exact HB.out)⟩⟩
              case round =>
                clear H'
                try clear c1
                try clear p2
                try clear c4
                try clear c7
                try clear c9
                try clear c9b0
                try clear c9b1
                try clear c13
                try clear c13b0
                try clear c13b1
                try clear c15
                try clear p2
                obtain ⟨x10_2, rfl, HA, HK2, HO_7, HB⟩ := hrel
                cases gk with
                | zero => exact absurd HA.out (by simp [cubitlaw09_LexBack.l0])
                | succ k2 =>
                  have H := HA.out
                  clear HA
                  simp only [cubitlaw09_LexBack.l0] at H
                  by_cases c16 : x10_2 < (t289.length : Int)
                  · rw [if_pos c16] at H
                    have c16b0 : decide (x10_2 < (t289.length : Int)) = true := decide_eq_true c16
                    clear c16
                    by_cases c17 : 0 ≤ x10_2
                    · rw [if_pos c17] at H
                      have c17b0 : decide (0 ≤ x10_2) = true := decide_eq_true c17
                      clear c17
                      by_cases c18 : x10_2 < (l1.length : Int)
                      · rw [if_pos c18] at H
                        have c18b0 : decide (x10_2 < (l1.length : Int)) = true := decide_eq_true c18
                        clear c18
                        by_cases c19 : ((rd_T31 t289 x10_2).f0) = ((rd_T31 l1 x10_2).f0)
                        · rw [if_pos c19] at H
                          have c19b0 : (((rd_T31 t289 x10_2).f0) == ((rd_T31 l1 x10_2).f0)) = true := beq_iff_eq.mpr c19
                          have c19b1 : (((rd_T31 t289 x10_2).f0) != ((rd_T31 l1 x10_2).f0)) = false := bne_eq_false_iff_eq.mpr c19
                          clear c19
                          by_cases c20 : ((rd_T31 t289 x10_2).f1).toList = ((rd_T31 l1 x10_2).f1).toList
                          · rw [if_pos c20] at H
                            have c20b0 : (((rd_T31 t289 x10_2).f1).toList == ((rd_T31 l1 x10_2).f1).toList) = true := beq_iff_eq.mpr c20
                            have c20b1 : (((rd_T31 t289 x10_2).f1).toList != ((rd_T31 l1 x10_2).f1).toList) = false := bne_eq_false_iff_eq.mpr c20
                            clear c20
                            have H' := Aside0.mk H
                            clear H
                            obtain ⟨Ao21, co21, eo21⟩ := Kd.R_slice HO_7.out
                            subst eo21
                            have p294 : 0 ≤ (x10_2 : Int) := of_decide_eq_true (by first | (with_reducible assumption) | assumption)
                            have q294 : x10_2 < (t289.length : Int) := of_decide_eq_true (by first | (with_reducible assumption) | assumption)
                            obtain ⟨ad294, e294, hx294_0, hx294_1, hx294_2⟩ := at_T31 (Kd.R_reads' HO_7.out).2.2 x10_2 p294 q294
                            cases e294
                            replace p294 := eq_true p294
                            replace q294 := eq_true q294
                            have p295 : 0 ≤ (x10_2 : Int) := of_decide_eq_true (by first | (with_reducible assumption) | assumption)
                            have q295 : x10_2 < (l1.length : Int) := of_decide_eq_true (by first | (with_reducible assumption) | assumption)
                            obtain ⟨ad295, e295, hx295_0, hx295_1, hx295_2⟩ := at_T31 HR1.out x10_2 p295 q295
                            cases e295
                            replace hx295_0 := (HB.out.cell (World.block_lt_of_cell? w _ hx295_0)).trans hx295_0
                            replace hx295_1 := (HB.out.cell (World.block_lt_of_cell? w _ hx295_1)).trans hx295_1
                            replace hx295_2 := (HB.out.cell (World.block_lt_of_cell? w _ hx295_2)).trans hx295_2
                            replace p295 := eq_true p295
                            replace q295 := eq_true q295
                            have p296 : 0 ≤ (x10_2 : Int) := of_decide_eq_true (by first | (with_reducible assumption) | assumption)
                            have q296 : x10_2 < (t289.length : Int) := of_decide_eq_true (by first | (with_reducible assumption) | assumption)
                            obtain ⟨ad296, e296, hx296_0, hx296_1, hx296_2⟩ := at_T31 (Kd.R_reads' HO_7.out).2.2 x10_2 p296 q296
                            obtain rfl : ad294 = ad296 := (by injection e296)
                            replace p296 := eq_true p296
                            replace q296 := eq_true q296
                            have p297 : 0 ≤ (x10_2 : Int) := of_decide_eq_true (by first | (with_reducible assumption) | assumption)
                            have q297 : x10_2 < (l1.length : Int) := of_decide_eq_true (by first | (with_reducible assumption) | assumption)
                            obtain ⟨ad297, e297, hx297_0, hx297_1, hx297_2⟩ := at_T31 HR1.out x10_2 p297 q297
                            obtain rfl : ad295 = ad297 := (by injection e297)
                            replace hx297_0 := (HB.out.cell (World.block_lt_of_cell? w _ hx297_0)).trans hx297_0
                            replace hx297_1 := (HB.out.cell (World.block_lt_of_cell? w _ hx297_1)).trans hx297_1
                            replace hx297_2 := (HB.out.cell (World.block_lt_of_cell? w _ hx297_2)).trans hx297_2
                            replace p297 := eq_true p297
                            replace q297 := eq_true q297
                            go_wp2
                            repeat (go_quiet (fail); try go_wp2)
                            go_roundg k2
                            case measure => have := HJ10.out; have := HK2.out; omega
                            case rel => exact ⟨(wrap64 (x10_2 + 1)), (by first | rfl | (simp; done) | (simp [*]; done)), H', ⟨by have := HJ10.out; have := HK2.out; omega⟩, ⟨by (with_reducible repeat (first | apply Kd.R_alloc | apply Kd.R_drewN | apply Kd.R_drew)); exact HO_7.out⟩, ⟨by repeat (first | (with_reducible first | exact HB.out | apply below_alloc | apply pw_below_drewN | apply below_drew1) | exact HB.out)⟩⟩
                          · rw [if_neg c20] at H
                            have c20b0 : (((rd_T31 t289 x10_2).f1).toList == ((rd_T31 l1 x10_2).f1).toList) = false := beq_eq_false_iff_ne.mpr c20
                            have c20b1 : (((rd_T31 t289 x10_2).f1).toList != ((rd_T31 l1 x10_2).f1).toList) = true := bne_iff_ne.mpr c20
                            exact absurd (HTRUE.out.symm.trans (Option.some.inj H).symm) (by decide)
                        · rw [if_neg c19] at H
                          have c19b0 : (((rd_T31 t289 x10_2).f0) == ((rd_T31 l1 x10_2).f0)) = false := beq_eq_false_iff_ne.mpr c19
                          have c19b1 : (((rd_T31 t289 x10_2).f0) != ((rd_T31 l1 x10_2).f0)) = true := bne_iff_ne.mpr c19
                          exact absurd (HTRUE.out.symm.trans (Option.some.inj H).symm) (by decide)
                      · rw [if_neg c18] at H
                        exact absurd H (by simp)
                    · rw [if_neg c17] at H
                      exact absurd H (by simp)
                  · rw [if_neg c16] at H
                    have c16b0 : decide (x10_2 < (t289.length : Int)) = false := decide_eq_false c16
                    clear c16
                    have H' := Aside0.mk H
                    clear H
                    obtain ⟨Ao22, co22, eo22⟩ := Kd.R_slice HO_7.out
                    subst eo22
                    go_wp2
                    repeat (go_quiet (fail); try go_wp2)
                    go_meet
                    case rel => exact ⟨_, H', ⟨by have := HJ10.out; have := HK2.out; first | omega | exact Nat.le_refl _⟩, ⟨by repeat (first | (with_reducible first | exact HB.out | apply below_alloc | apply pw_below_drewN | apply below_drew1) | exact HB.out)⟩⟩
      · rw [if_neg c9] at H
        have c9b0 : (t288 == 0) = false := beq_eq_false_iff_ne.mpr c9
        have c9b1 : (t288 != 0) = true := bne_iff_ne.mpr c9
        (first | rw [c9b0] | (simp only [i64_w, i32_w]; rw [c9b0]) | skip)
        have H' := Aside0.mk H
        clear H
        go_wp2
        repeat (go_quiet (fail); try go_wp2)
        go_meet
        case rel => exact ⟨_, H', ⟨by first | omega | exact Nat.le_refl _⟩, ⟨by repeat (first | (with_reducible first | exact HB.out | apply below_alloc | apply pw_below_drewN | apply below_drew1) | exact HB.out)⟩⟩
    case rest =>
      clear HC6
      try clear c1
      try clear c2
      try clear p2
      try clear q2
      try clear hx2
      try clear c4
      try clear p6
      try clear c7
      try clear c9
      try clear c9b0
      try clear c9b1
      try clear c13
      try clear c13b0
      try clear c13b1
      try clear c15
      try clear c16
      try clear c16b0
      try clear c17
      try clear c17b0
      try clear c18
      try clear c18b0
      try clear c19
      try clear c19b0
      try clear c19b1
      try clear c20
      try clear c20b0
      try clear c20b1
      try clear hx294_0
      try clear hx294_1
      try clear hx294_2
      try clear hx295_0
      try clear hx295_1
      try clear hx295_2
      try clear hx296_0
      try clear hx296_1
      try clear hx296_2
      try clear hx297_0
      try clear hx297_1
      try clear hx297_2
      try clear p2
      try clear p294
      try clear p295
      try clear p296
      try clear p297
      try clear q294
      try clear q295
      try clear q296
      try clear q297
      obtain ⟨kq, HA, HJ5, HB⟩ := hcut
      cases kq with
      | zero => exact absurd HA.out (by simp [cubitlaw09_LexBack.j2])
      | succ kj5 =>
        have H := HA.out
        clear HA
        simp only [cubitlaw09_LexBack.j2] at H
        replace H := Option.bind_eq_some_iff.mp H
        obtain ⟨⟨t298, t299, t300⟩, A230, H⟩ := H
        replace H : (if t300 = 0 then (cubitlaw09_LexBack.l1 kj5 t298 (wrap64 ((t298.length : Int) - 1)) 0) else (some true)) = some r := H
        have A23 := Aside0.mk A230
        clear A230
        by_cases c24 : t300 = 0
        · rw [if_pos c24] at H
          have c24b0 : (t300 == 0) = true := beq_iff_eq.mpr c24
          have c24b1 : (t300 != 0) = false := bne_eq_false_iff_eq.mpr c24
          clear c24
          have H' := Aside0.mk H
          clear H
          go_wp2_with (first | (go_at_call 10; (with_reducible refine (lex_Scan.calls kj5 a0 t298 t299 t300 _ A23.out).mono ?_); rintro e w25 ⟨v301, rfl, ho0, hb⟩; have n0_ := Aside0.mk (Kd.R_lower ho0 (below_size (by repeat (first | (with_reducible first | exact HB.out | apply below_alloc | apply pw_below_drewN | apply below_drew1) | exact HB.out)))); have n1_ := Aside0.mk (below_step (by repeat (first | (with_reducible first | exact HB.out | apply below_alloc | apply pw_below_drewN | apply below_drew1) | exact HB.out)) hb); clear HB; have HO302 := n0_; have HB := n1_; clear n0_ n1_; (try clear hb); (try clear hb2); (try clear hk); (try clear hi); (try clear ho0); obtain ⟨Ao26, co26, eo26⟩ := Kd.R_slice HO302.out; subst eo26))
          repeat (go_quiet (first | (go_at_call 10; (with_reducible refine (lex_Scan.calls kj5 a0 t298 t299 t300 _ A23.out).mono ?_); rintro e w25 ⟨v301, rfl, ho0, hb⟩; have n0_ := Aside0.mk (Kd.R_lower ho0 (below_size (by repeat (first | (with_reducible first | exact HB.out | apply below_alloc | apply pw_below_drewN | apply below_drew1) | exact HB.out)))); have n1_ := Aside0.mk (below_step (by repeat (first | (with_reducible first | exact HB.out | apply below_alloc | apply pw_below_drewN | apply below_drew1) | exact HB.out)) hb); clear HB; have HO302 := n0_; have HB := n1_; clear n0_ n1_; (try clear hb); (try clear hb2); (try clear hk); (try clear hi); (try clear ho0); obtain ⟨Ao26, co26, eo26⟩ := Kd.R_slice HO302.out; subst eo26)); try go_wp2_with (first | (go_at_call 10; (with_reducible refine (lex_Scan.calls kj5 a0 t298 t299 t300 _ A23.out).mono ?_); rintro e w25 ⟨v301, rfl, ho0, hb⟩; have n0_ := Aside0.mk (Kd.R_lower ho0 (below_size (by repeat (first | (with_reducible first | exact HB.out | apply below_alloc | apply pw_below_drewN | apply below_drew1) | exact HB.out)))); have n1_ := Aside0.mk (below_step (by repeat (first | (with_reducible first | exact HB.out | apply below_alloc | apply pw_below_drewN | apply below_drew1) | exact HB.out)) hb); clear HB; have HO302 := n0_; have HB := n1_; clear n0_ n1_; (try clear hb); (try clear hb2); (try clear hk); (try clear hi); (try clear ho0); obtain ⟨Ao26, co26, eo26⟩ := Kd.R_slice HO302.out; subst eo26)))
          go_loopg [14, 15] kj5 (fun kq v14 v15 w' => ∃ (x14_2 : Int) (x15_2 : Int), v14 = .int .i64 x14_2 ∧ v15 = .int .i64 x15_2 ∧ Aside0 (cubitlaw09_LexBack.l1 kq t298 x14_2 x15_2 = some r) ∧ Aside0 (kq ≤ kj5) ∧ Aside0 (Kd.R k31 31 w' w.heap.size (fun _ => True) (.slice Ao26 t298.length co26) t298) ∧ Aside0 (Below w.heap.size w w'))
          case atStart => exact ⟨(wrap64 ((t298.length : Int) - 1)), (0), (by first | rfl | (simp; done) | (simp [*]; done)), (by first | rfl | (simp; done) | (simp [*]; done)), H', ⟨Nat.le_refl _⟩, ⟨by (with_reducible repeat (first | apply Kd.R_alloc | apply Kd.R_drewN | apply Kd.R_drew)); exact HO302.out⟩, ⟨by repeat (first | (with_reducible first | exact HB.out | apply below_alloc | apply pw_below_drewN | apply below_drew1) | exact HB.out)⟩⟩
          case round =>
            clear H'
            try clear c1
            try clear c2
            try clear p2
            try clear q2
            try clear hx2
            try clear c4
            try clear p6
            try clear c7
            try clear c9
            try clear c9b0
            try clear c9b1
            try clear c13
            try clear c13b0
            try clear c13b1
            try clear c15
            try clear c16
            try clear c16b0
            try clear c17
            try clear c17b0
            try clear c18
            try clear c18b0
            try clear c19
            try clear c19b0
            try clear c19b1
            try clear c20
            try clear c20b0
            try clear c20b1
            try clear c24
            try clear c24b0
            try clear c24b1
            try clear hx294_0
            try clear hx294_1
            try clear hx294_2
            try clear hx295_0
            try clear hx295_1
            try clear hx295_2
            try clear hx296_0
            try clear hx296_1
            try clear hx296_2
            try clear hx297_0
            try clear hx297_1
            try clear hx297_2
            try clear p2
            try clear p294
            try clear p295
            try clear p296
            try clear p297
            try clear p6
            try clear q2
            try clear q294
            try clear q295
            try clear q296
            try clear q297
            obtain ⟨x14_2, x15_2, rfl, rfl, HA, HK2, HO_11, HB⟩ := hrel
            cases gk with
            | zero => exact absurd HA.out (by simp [cubitlaw09_LexBack.l1])
            | succ k2 =>
              have H := HA.out
              clear HA
              simp only [cubitlaw09_LexBack.l1] at H
              by_cases c27 : x15_2 < (t298.length : Int)
              · rw [if_pos c27] at H
                have c27b0 : decide (x15_2 < (t298.length : Int)) = true := decide_eq_true c27
                clear c27
                by_cases c28 : 0 ≤ x15_2
                · rw [if_pos c28] at H
                  have c28b0 : decide (0 ≤ x15_2) = true := decide_eq_true c28
                  clear c28
                  have H' := Aside0.mk H
                  clear H
                  have p303 : 0 ≤ (x15_2 : Int) := of_decide_eq_true (by first | (with_reducible assumption) | assumption)
                  have q303 : x15_2 < (t298.length : Int) := of_decide_eq_true (by first | (with_reducible assumption) | assumption)
                  obtain ⟨ad303, e303, hx303_0, hx303_1, hx303_2⟩ := at_T31 (Kd.R_reads' HO_11.out).2.2 x15_2 p303 q303
                  cases e303
                  replace p303 := eq_true p303
                  replace q303 := eq_true q303
                  go_wp2
                  repeat (go_quiet (fail); try go_wp2)
                  go_roundg k2
                  case measure => have := HJ5.out; have := HK2.out; omega
                  case rel => exact ⟨(wrap64 (x14_2 + (((rd_T31 t298 x15_2).f1).size : Int))), (wrap64 (x15_2 + 1)), (by first | rfl | (simp; done) | (simp [*]; done)), (by first | rfl | (simp; done) | (simp [*]; done)), H', ⟨by have := HJ5.out; have := HK2.out; omega⟩, ⟨by (with_reducible repeat (first | apply Kd.R_alloc | apply Kd.R_drewN | apply Kd.R_drew)); exact HO_11.out⟩, ⟨by repeat (first | (with_reducible first | exact HB.out | apply below_alloc | apply pw_below_drewN | apply below_drew1) | exact HB.out)⟩⟩
                · rw [if_neg c28] at H
                  exact absurd H (by simp)
              · rw [if_neg c27] at H
                have c27b0 : decide (x15_2 < (t298.length : Int)) = false := decide_eq_false c27
                clear c27
                replace H := Option.bind_eq_some_iff.mp H
                obtain ⟨⟨t304, t305⟩, A290, H⟩ := H
                replace H : (if t305 = 0 then (cubitlaw09_LexBack.j4 k2 t298 x14_2 t304 t305 (decide (x14_2 > 65536))) else (cubitlaw09_LexBack.j4 k2 t298 x14_2 t304 t305 true)) = some r := H
                have A29 := Aside0.mk A290
                clear A290
                have HC30 := Aside0.mk H
                clear H
                go_upto_region 22 with (first | (go_at_call 14; (with_reducible refine (lex_Join.calls k2 _ _ t298 t304 t305 _ ?side1 ?side2 A29.out).mono ?_); (case side1 => repeat (first | exact (Kd.R_reads' HO_11.out).2.2 | (with_reducible refine Kd.C_alloc ?_ _) | (with_reducible refine Kd.C_drewN ?_ _) | (with_reducible refine Kd.C_drew ?_))); (case side2 => exact (Kd.R_reads' HO_11.out).2.1); rintro e w31 ⟨rfl, hb⟩; have n0_ := Aside0.mk (Kd.R_below (by (with_reducible repeat (first | apply Kd.R_alloc | apply Kd.R_drewN | apply Kd.R_drew)); exact HO_11.out) hb); have n1_ := Aside0.mk (below_step (by repeat (first | (with_reducible first | exact HB.out | apply below_alloc | apply pw_below_drewN | apply below_drew1) | exact HB.out)) hb); clear HO_11; clear HB; have HO_11 := n0_; have HB := n1_; clear n0_ n1_; (try clear hb); (try clear hb2); (try clear hk); (try clear hi)))
                repeat (go_quiet (first | (go_at_call 14; (with_reducible refine (lex_Join.calls k2 _ _ t298 t304 t305 _ ?side1 ?side2 A29.out).mono ?_); (case side1 => repeat (first | exact (Kd.R_reads' HO_11.out).2.2 | (with_reducible refine Kd.C_alloc ?_ _) | (with_reducible refine Kd.C_drewN ?_ _) | (with_reducible refine Kd.C_drew ?_))); (case side2 => exact (Kd.R_reads' HO_11.out).2.1); rintro e w31 ⟨rfl, hb⟩; have n0_ := Aside0.mk (Kd.R_below (by (with_reducible repeat (first | apply Kd.R_alloc | apply Kd.R_drewN | apply Kd.R_drew)); exact HO_11.out) hb); have n1_ := Aside0.mk (below_step (by repeat (first | (with_reducible first | exact HB.out | apply below_alloc | apply pw_below_drewN | apply below_drew1) | exact HB.out)) hb); clear HO_11; clear HB; have HO_11 := n0_; have HB := n1_; clear n0_ n1_; (try clear hb); (try clear hb2); (try clear hk); (try clear hi))); go_upto_region 22 with (first | (go_at_call 14; (with_reducible refine (lex_Join.calls k2 _ _ t298 t304 t305 _ ?side1 ?side2 A29.out).mono ?_); (case side1 => repeat (first | exact (Kd.R_reads' HO_11.out).2.2 | (with_reducible refine Kd.C_alloc ?_ _) | (with_reducible refine Kd.C_drewN ?_ _) | (with_reducible refine Kd.C_drew ?_))); (case side2 => exact (Kd.R_reads' HO_11.out).2.1); rintro e w31 ⟨rfl, hb⟩; have n0_ := Aside0.mk (Kd.R_below (by (with_reducible repeat (first | apply Kd.R_alloc | apply Kd.R_drewN | apply Kd.R_drew)); exact HO_11.out) hb); have n1_ := Aside0.mk (below_step (by repeat (first | (with_reducible first | exact HB.out | apply below_alloc | apply pw_below_drewN | apply below_drew1) | exact HB.out)) hb); clear HO_11; clear HB; have HO_11 := n0_; have HB := n1_; clear n0_ n1_; (try clear hb); (try clear hb2); (try clear hk); (try clear hi))))
                (try simp only [Act.put, List.setIfInBounds_toArray, List.set_cons_zero, List.set_cons_succ])
                go_cut [112] (fun v112 wc => ∃ (kq : Nat) (x112_29 : Bool), v112 = .bool x112_29 ∧ Aside0 (cubitlaw09_LexBack.j4 kq t298 x14_2 t304 t305 x112_29 = some r) ∧ Aside0 (kq ≤ k2) ∧ Aside0 (Kd.R k31 31 wc w.heap.size (fun _ => True) (.slice Ao26 t298.length co26) t298) ∧ Aside0 (Below w.heap.size w wc))
                case first =>
                  have H := HC30.out
                  clear HC30
                  by_cases c32 : t305 = 0
                  · rw [if_pos c32] at H
                    have c32b0 : (t305 == 0) = true := beq_iff_eq.mpr c32
                    have c32b1 : (t305 != 0) = false := bne_eq_false_iff_eq.mpr c32
                    clear c32
                    (first | rw [c32b0] | (simp only [i64_w, i32_w]; rw [c32b0]) | skip)
                    have H' := Aside0.mk H
                    clear H
                    go_wp2
                    repeat (go_quiet (fail); try go_wp2)
                    go_meet
                    case rel => exact ⟨_, (decide (x14_2 > 65536)), (by first | rfl | (simp; done) | (simp [*]; done)), H', ⟨by have := HJ5.out; have := HK2.out; first | omega | exact Nat.le_refl _⟩, ⟨by (with_reducible repeat (first | apply Kd.R_alloc | apply Kd.R_drewN | apply Kd.R_drew)); exact HO_11.out⟩, ⟨by repeat (first | (with_reducible first | exact HB.out | apply below_alloc | apply pw_below_drewN | apply below_drew1) | exact HB.out)⟩⟩
                  · rw [if_neg c32] at H
                    have c32b0 : (t305 == 0) = false := beq_eq_false_iff_ne.mpr c32
                    have c32b1 : (t305 != 0) = true := bne_iff_ne.mpr c32
                    (first | rw [c32b0] | (simp only [i64_w, i32_w]; rw [c32b0]) | skip)
                    have H' := Aside0.mk H
                    clear H
                    go_wp2
                    repeat (go_quiet (fail); try go_wp2)
                    go_meet
                    case rel => exact ⟨_, (true), (by first | rfl | (simp; done) | (simp [*]; done)), H', ⟨by have := HJ5.out; have := HK2.out; first | omega | exact Nat.le_refl _⟩, ⟨by (with_reducible repeat (first | apply Kd.R_alloc | apply Kd.R_drewN | apply Kd.R_drew)); exact HO_11.out⟩, ⟨by repeat (first | (with_reducible first | exact HB.out | apply below_alloc | apply pw_below_drewN | apply below_drew1) | exact HB.out)⟩⟩
                case rest =>
                  clear HC30
                  try clear c1
                  try clear c2
                  try clear p2
                  try clear q2
                  try clear hx2
                  try clear c3
                  try clear p3
                  try clear q3
                  try clear hx3
                  try clear c4
                  try clear p6
                  try clear c7
                  try clear c9
                  try clear c9b0
                  try clear c9b1
                  try clear c13
                  try clear c13b0
                  try clear c13b1
                  try clear c15
                  try clear c16
                  try clear c16b0
                  try clear c17
                  try clear c17b0
                  try clear c18
                  try clear c18b0
                  try clear c19
                  try clear c19b0
                  try clear c19b1
                  try clear c20
                  try clear c20b0
                  try clear c20b1
                  try clear c24
                  try clear c24b0
                  try clear c24b1
                  try clear c27
                  try clear c27b0
                  try clear c28
                  try clear c28b0
                  try clear p29
                  try clear q29
                  try clear hx29
                  try clear p30
                  try clear q30
                  try clear hx30
                  try clear c32
                  try clear c32b0
                  try clear c32b1
                  try clear hx294_0
                  try clear hx294_1
                  try clear hx294_2
                  try clear hx295_0
                  try clear hx295_1
                  try clear hx295_2
                  try clear hx296_0
                  try clear hx296_1
                  try clear hx296_2
                  try clear hx297_0
                  try clear hx297_1
                  try clear hx297_2
                  try clear hx303_0
                  try clear hx303_1
                  try clear hx303_2
                  try clear p2
                  try clear p294
                  try clear p295
                  try clear p296
                  try clear p297
                  try clear p303
                  try clear p6
                  try clear q2
                  try clear q294
                  try clear q295
                  try clear q296
                  try clear q297
                  try clear q303
                  obtain ⟨kq, x112_29, rfl, HA, HJ29, HO_11, HB⟩ := hcut
                  cases kq with
                  | zero => exact absurd HA.out (by simp [cubitlaw09_LexBack.j4])
                  | succ kj29 =>
                    have H := HA.out
                    clear HA
                    simp only [cubitlaw09_LexBack.j4] at H
                    by_cases c33 : x112_29 = true
                    · subst c33
                      have H1 : (if t305 = 1 then (some (decide (x14_2 > 65536))) else (some false)) = some r := by rw [if_pos rfl] at H; exact H
                      clear H
                      have H := H1
                      clear H1
                      by_cases c34 : t305 = 1
                      · rw [if_pos c34] at H
                        have c34b0 : (t305 == 1) = true := beq_iff_eq.mpr c34
                        have c34b1 : (t305 != 1) = false := bne_eq_false_iff_eq.mpr c34
                        clear c34
                        obtain rfl := Option.some.inj H
                        go_wp2
                        repeat (go_quiet (fail); try go_wp2)
                        go_ret
                        exact ⟨by first | rfl | (simp [errW_none, errW_some] <;> rfl) | (simp [*, errW_none, errW_some] <;> rfl), by repeat (first | (with_reducible first | exact HB.out | apply below_alloc | apply pw_below_drewN | apply below_drew1) | exact HB.out)⟩
                      · rw [if_neg c34] at H
                        have c34b0 : (t305 == 1) = false := beq_eq_false_iff_ne.mpr c34
                        have c34b1 : (t305 != 1) = true := bne_iff_ne.mpr c34
                        exact absurd (HTRUE.out.symm.trans (Option.some.inj H).symm) (by decide)
                    · replace c33 := Bool.eq_false_iff.mpr c33
                      subst c33
                      have H1 : ((lex_Scan.f kj29 t304).bind fun bt306 => ((lex_Join.f kj29 bt306.1).bind fun bt311 => (if bt306.2.2 = 0 then (if bt311.2 = 0 then (if bt311.1.toList = t304.toList then (some ((bt306.1.length : Int) == (t298.length : Int))) else (some false)) else (some false)) else (some false)))) = some r := by rw [if_neg (show ¬ (false = true) by decide)] at H; exact H
                      clear H
                      have H := H1
                      clear H1
                      replace H := Option.bind_eq_some_iff.mp H
                      obtain ⟨⟨t306, t307, t308⟩, A350, H⟩ := H
                      replace H : ((lex_Join.f kj29 t306).bind fun bt311 => (if t308 = 0 then (if bt311.2 = 0 then (if bt311.1.toList = t304.toList then (some ((t306.length : Int) == (t298.length : Int))) else (some false)) else (some false)) else (some false))) = some r := H
                      have A35 := Aside0.mk A350
                      clear A350
                      replace H := Option.bind_eq_some_iff.mp H
                      obtain ⟨⟨t311, t312⟩, A360, H⟩ := H
                      replace H : (if t308 = 0 then (if t312 = 0 then (if t311.toList = t304.toList then (some ((t306.length : Int) == (t298.length : Int))) else (some false)) else (some false)) else (some false)) = some r := H
                      have A36 := Aside0.mk A360
                      clear A360
                      by_cases c37 : t308 = 0
                      · rw [if_pos c37] at H
                        have c37b0 : (t308 == 0) = true := beq_iff_eq.mpr c37
                        have c37b1 : (t308 != 0) = false := bne_eq_false_iff_eq.mpr c37
                        clear c37
                        by_cases c38 : t312 = 0
                        · rw [if_pos c38] at H
                          have c38b0 : (t312 == 0) = true := beq_iff_eq.mpr c38
                          have c38b1 : (t312 != 0) = false := bne_eq_false_iff_eq.mpr c38
                          clear c38
                          by_cases c39 : t311.toList = t304.toList
                          · rw [if_pos c39] at H
                            have c39b0 : (t311.toList == t304.toList) = true := beq_iff_eq.mpr c39
                            have c39b1 : (t311.toList != t304.toList) = false := bne_eq_false_iff_eq.mpr c39
                            clear c39
                            obtain rfl := Option.some.inj H
                            go_wp2_with (first | (go_at_call 10; (with_reducible refine (lex_Scan.calls kj29 t304 t306 t307 t308 _ A35.out).mono ?_); rintro e w40 ⟨v309, rfl, ho0, hb⟩; have n0_ := Aside0.mk (Kd.R_elder' (by (with_reducible repeat (first | apply Kd.R_alloc | apply Kd.R_drewN | apply Kd.R_drew)); exact HO_11.out) (Kd.R_base ho0) hb); have n1_ := Aside0.mk (Kd.R_lower (Kd.R_new' ho0 (Kd.R_lt (by (with_reducible repeat (first | apply Kd.R_alloc | apply Kd.R_drewN | apply Kd.R_drew)); exact HO_11.out))) (below_size (by repeat (first | (with_reducible first | exact HB.out | apply below_alloc | apply pw_below_drewN | apply below_drew1) | exact HB.out)))); have n2_ := Aside0.mk (below_step (by repeat (first | (with_reducible first | exact HB.out | apply below_alloc | apply pw_below_drewN | apply below_drew1) | exact HB.out)) hb); clear HO_11; clear HB; have HO_11 := n0_; have HO310 := n1_; have HB := n2_; clear n0_ n1_ n2_; (try clear hb); (try clear hb2); (try clear hk); (try clear hi); (try clear ho0); obtain ⟨Ao41, co41, eo41⟩ := Kd.R_slice HO310.out; subst eo41) | (go_at_call 14; (with_reducible refine (lex_Join.calls kj29 _ _ t306 t311 t312 _ ?side1 ?side2 A36.out).mono ?_); (case side1 => repeat (first | exact (Kd.R_reads' HO310.out).2.2 | (with_reducible refine Kd.C_alloc ?_ _) | (with_reducible refine Kd.C_drewN ?_ _) | (with_reducible refine Kd.C_drew ?_))); (case side2 => exact (Kd.R_reads' HO310.out).2.1); rintro e w42 ⟨rfl, hb⟩; have n0_ := Aside0.mk (Kd.R_below (by (with_reducible repeat (first | apply Kd.R_alloc | apply Kd.R_drewN | apply Kd.R_drew)); exact HO_11.out) hb); have n1_ := Aside0.mk (Kd.R_below (by (with_reducible repeat (first | apply Kd.R_alloc | apply Kd.R_drewN | apply Kd.R_drew)); exact HO310.out) hb); have n2_ := Aside0.mk (below_step (by repeat (first | (with_reducible first | exact HB.out | apply below_alloc | apply pw_below_drewN | apply below_drew1) | exact HB.out)) hb); clear HO_11; clear HO310; clear HB; have HO_11 := n0_; have HO310 := n1_; have HB := n2_; clear n0_ n1_ n2_; (try clear hb); (try clear hb2); (try clear hk); (try clear hi)))
                            repeat (go_quiet (first | (go_at_call 10; (with_reducible refine (lex_Scan.calls kj29 t304 t306 t307 t308 _ A35.out).mono ?_); rintro e w40 ⟨v309, rfl, ho0, hb⟩; have n0_ := Aside0.mk (Kd.R_elder' (by (with_reducible repeat (first | apply Kd.R_alloc | apply Kd.R_drewN | apply Kd.R_drew)); exact HO_11.out) (Kd.R_base ho0) hb); have n1_ := Aside0.mk (Kd.R_lower (Kd.R_new' ho0 (Kd.R_lt (by (with_reducible repeat (first | apply Kd.R_alloc | apply Kd.R_drewN | apply Kd.R_drew)); exact HO_11.out))) (below_size (by repeat (first | (with_reducible first | exact HB.out | apply below_alloc | apply pw_below_drewN | apply below_drew1) | exact HB.out)))); have n2_ := Aside0.mk (below_step (by repeat (first | (with_reducible first | exact HB.out | apply below_alloc | apply pw_below_drewN | apply below_drew1) | exact HB.out)) hb); clear HO_11; clear HB; have HO_11 := n0_; have HO310 := n1_; have HB := n2_; clear n0_ n1_ n2_; (try clear hb); (try clear hb2); (try clear hk); (try clear hi); (try clear ho0); obtain ⟨Ao41, co41, eo41⟩ := Kd.R_slice HO310.out; subst eo41) | (go_at_call 14; (with_reducible refine (lex_Join.calls kj29 _ _ t306 t311 t312 _ ?side1 ?side2 A36.out).mono ?_); (case side1 => repeat (first | exact (Kd.R_reads' HO310.out).2.2 | (with_reducible refine Kd.C_alloc ?_ _) | (with_reducible refine Kd.C_drewN ?_ _) | (with_reducible refine Kd.C_drew ?_))); (case side2 => exact (Kd.R_reads' HO310.out).2.1); rintro e w42 ⟨rfl, hb⟩; have n0_ := Aside0.mk (Kd.R_below (by (with_reducible repeat (first | apply Kd.R_alloc | apply Kd.R_drewN | apply Kd.R_drew)); exact HO_11.out) hb); have n1_ := Aside0.mk (Kd.R_below (by (with_reducible repeat (first | apply Kd.R_alloc | apply Kd.R_drewN | apply Kd.R_drew)); exact HO310.out) hb); have n2_ := Aside0.mk (below_step (by repeat (first | (with_reducible first | exact HB.out | apply below_alloc | apply pw_below_drewN | apply below_drew1) | exact HB.out)) hb); clear HO_11; clear HO310; clear HB; have HO_11 := n0_; have HO310 := n1_; have HB := n2_; clear n0_ n1_ n2_; (try clear hb); (try clear hb2); (try clear hk); (try clear hi))); try go_wp2_with (first | (go_at_call 10; (with_reducible refine (lex_Scan.calls kj29 t304 t306 t307 t308 _ A35.out).mono ?_); rintro e w40 ⟨v309, rfl, ho0, hb⟩; have n0_ := Aside0.mk (Kd.R_elder' (by (with_reducible repeat (first | apply Kd.R_alloc | apply Kd.R_drewN | apply Kd.R_drew)); exact HO_11.out) (Kd.R_base ho0) hb); have n1_ := Aside0.mk (Kd.R_lower (Kd.R_new' ho0 (Kd.R_lt (by (with_reducible repeat (first | apply Kd.R_alloc | apply Kd.R_drewN | apply Kd.R_drew)); exact HO_11.out))) (below_size (by repeat (first | (with_reducible first | exact HB.out | apply below_alloc | apply pw_below_drewN | apply below_drew1) | exact HB.out)))); have n2_ := Aside0.mk (below_step (by repeat (first | (with_reducible first | exact HB.out | apply below_alloc | apply pw_below_drewN | apply below_drew1) | exact HB.out)) hb); clear HO_11; clear HB; have HO_11 := n0_; have HO310 := n1_; have HB := n2_; clear n0_ n1_ n2_; (try clear hb); (try clear hb2); (try clear hk); (try clear hi); (try clear ho0); obtain ⟨Ao41, co41, eo41⟩ := Kd.R_slice HO310.out; subst eo41) | (go_at_call 14; (with_reducible refine (lex_Join.calls kj29 _ _ t306 t311 t312 _ ?side1 ?side2 A36.out).mono ?_); (case side1 => repeat (first | exact (Kd.R_reads' HO310.out).2.2 | (with_reducible refine Kd.C_alloc ?_ _) | (with_reducible refine Kd.C_drewN ?_ _) | (with_reducible refine Kd.C_drew ?_))); (case side2 => exact (Kd.R_reads' HO310.out).2.1); rintro e w42 ⟨rfl, hb⟩; have n0_ := Aside0.mk (Kd.R_below (by (with_reducible repeat (first | apply Kd.R_alloc | apply Kd.R_drewN | apply Kd.R_drew)); exact HO_11.out) hb); have n1_ := Aside0.mk (Kd.R_below (by (with_reducible repeat (first | apply Kd.R_alloc | apply Kd.R_drewN | apply Kd.R_drew)); exact HO310.out) hb); have n2_ := Aside0.mk (below_step (by repeat (first | (with_reducible first | exact HB.out | apply below_alloc | apply pw_below_drewN | apply below_drew1) | exact HB.out)) hb); clear HO_11; clear HO310; clear HB; have HO_11 := n0_; have HO310 := n1_; have HB := n2_; clear n0_ n1_ n2_; (try clear hb); (try clear hb2); (try clear hk); (try clear hi))))
                            go_ret
                            exact ⟨by first | rfl | (simp [errW_none, errW_some] <;> rfl) | (simp [*, errW_none, errW_some] <;> rfl), by repeat (first | (with_reducible first | exact HB.out | apply below_alloc | apply pw_below_drewN | apply below_drew1) | exact HB.out)⟩
                          · rw [if_neg c39] at H
                            have c39b0 : (t311.toList == t304.toList) = false := beq_eq_false_iff_ne.mpr c39
                            have c39b1 : (t311.toList != t304.toList) = true := bne_iff_ne.mpr c39
                            exact absurd (HTRUE.out.symm.trans (Option.some.inj H).symm) (by decide)
                        · rw [if_neg c38] at H
                          have c38b0 : (t312 == 0) = false := beq_eq_false_iff_ne.mpr c38
                          have c38b1 : (t312 != 0) = true := bne_iff_ne.mpr c38
                          exact absurd (HTRUE.out.symm.trans (Option.some.inj H).symm) (by decide)
                      · rw [if_neg c37] at H
                        have c37b0 : (t308 == 0) = false := beq_eq_false_iff_ne.mpr c37
                        have c37b1 : (t308 != 0) = true := bne_iff_ne.mpr c37
                        exact absurd (HTRUE.out.symm.trans (Option.some.inj H).symm) (by decide)
        · rw [if_neg c24] at H
          have c24b0 : (t300 == 0) = false := beq_eq_false_iff_ne.mpr c24
          have c24b1 : (t300 != 0) = true := bne_iff_ne.mpr c24
          obtain rfl := Option.some.inj H
          go_wp2_with (first | (go_at_call 10; (with_reducible refine (lex_Scan.calls kj5 a0 t298 t299 t300 _ A23.out).mono ?_); rintro e w43 ⟨v301, rfl, ho0, hb⟩; have n0_ := Aside0.mk (Kd.R_lower ho0 (below_size (by repeat (first | (with_reducible first | exact HB.out | apply below_alloc | apply pw_below_drewN | apply below_drew1) | exact HB.out)))); have n1_ := Aside0.mk (below_step (by repeat (first | (with_reducible first | exact HB.out | apply below_alloc | apply pw_below_drewN | apply below_drew1) | exact HB.out)) hb); clear HB; have HO302 := n0_; have HB := n1_; clear n0_ n1_; (try clear hb); (try clear hb2); (try clear hk); (try clear hi); (try clear ho0)))
          repeat (go_quiet (first | (go_at_call 10; (with_reducible refine (lex_Scan.calls kj5 a0 t298 t299 t300 _ A23.out).mono ?_); rintro e w43 ⟨v301, rfl, ho0, hb⟩; have n0_ := Aside0.mk (Kd.R_lower ho0 (below_size (by repeat (first | (with_reducible first | exact HB.out | apply below_alloc | apply pw_below_drewN | apply below_drew1) | exact HB.out)))); have n1_ := Aside0.mk (below_step (by repeat (first | (with_reducible first | exact HB.out | apply below_alloc | apply pw_below_drewN | apply below_drew1) | exact HB.out)) hb); clear HB; have HO302 := n0_; have HB := n1_; clear n0_ n1_; (try clear hb); (try clear hb2); (try clear hk); (try clear hi); (try clear ho0))); try go_wp2_with (first | (go_at_call 10; (with_reducible refine (lex_Scan.calls kj5 a0 t298 t299 t300 _ A23.out).mono ?_); rintro e w43 ⟨v301, rfl, ho0, hb⟩; have n0_ := Aside0.mk (Kd.R_lower ho0 (below_size (by repeat (first | (with_reducible first | exact HB.out | apply below_alloc | apply pw_below_drewN | apply below_drew1) | exact HB.out)))); have n1_ := Aside0.mk (below_step (by repeat (first | (with_reducible first | exact HB.out | apply below_alloc | apply pw_below_drewN | apply below_drew1) | exact HB.out)) hb); clear HB; have HO302 := n0_; have HB := n1_; clear n0_ n1_; (try clear hb); (try clear hb2); (try clear hk); (try clear hi); (try clear ho0))))
          go_ret
          exact ⟨by first | rfl | (simp [errW_none, errW_some] <;> rfl) | (simp [*, errW_none, errW_some] <;> rfl), by repeat (first | (with_reducible first | exact HB.out | apply below_alloc | apply pw_below_drewN | apply below_drew1) | exact HB.out)⟩
  · replace c4 := Bool.eq_false_iff.mpr c4
    subst c4
    have H1 : (some false) = some r := by rw [if_neg (show ¬ (false = true) by decide)] at H; exact H
    clear H
    have H := H1
    clear H1
    exact absurd (HTRUE.out.symm.trans (Option.some.inj H).symm) (by decide)

/-- THE ONE PURE STATEMENT of cubitlaw09_LexBack: yours. -/
def cubitlaw09_LexBack.Pure : Prop := ∀ (a0 : ByteArray) (l1 : List (S31)), a0.size ≤ 140737488351232 → l1.length * 32 ≤ 140737488351232 → (∀ u ∈ l1, ((Lit.int .i64 u.f0).wf = true) ∧ (u.f1.size ≤ 140737488351232) ∧ ((Lit.int .i64 u.f2).wf = true)) → (a0.size + 1) + ((l1.map fun v0 => ((1 + ((v0.f1.size + 1) + 1)) + 1)).sum + 1) ≤ 1048576 → ∃ k, cubitlaw09_LexBack.f k a0 l1 = some true
theorem cubitlaw09_LexBack.walk (P : cubitlaw09_LexBack.Pure) (a0 : ByteArray) (A1 : Option Addr) (c1 : Nat) (l1 : List (S31)) (w : World) (w0 : a0.size ≤ 140737488351232) (hr1 : Kd.C k31 w A1 l1.length l1) (hc1 : l1.length ≤ c1) (y1 : l1.length * 32 ≤ 140737488351232) (w1 : ∀ u ∈ l1, ((Lit.int .i64 u.f0).wf = true) ∧ (u.f1.size ≤ 140737488351232) ∧ ((Lit.int .i64 u.f2).wf = true)) (hup : (a0.size + 1) + ((l1.map fun v0 => ((1 + ((v0.f1.size + 1) + 1)) + 1)).sum + 1) ≤ 1048576) :
    Calls Try.prog 7 #[.string a0, .slice A1 l1.length c1] w fun e w' => e = .returned (.bool true) ∧ Below w.heap.size w w' := by
  obtain ⟨k, h⟩ := P a0 l1 w0 y1 w1 hup
  refine (cubitlaw09_LexBack.calls k a0 _ _ l1 true w hr1 hc1 h rfl).mono ?_
  rintro e w' ⟨rfl, hd⟩
  exact ⟨rfl, hd⟩

end Go.Proofs.Ytkonklmgkkbnmaa.PA
