/- Printed for this claim by a program of the session: contracts of Go functions: a call answers what its Lean function tells, wherever that tells something. -/
import Derived.Test.YtoebcbhadcpcoaaDoorPAx0
import Derived.Test.YtoebcbhadcpcoaaDoorPAx1
import Derived.Test.YtoebcbhadcpcoaaDoorPAx2
import Derived.Test.YtoebcbhadcpcoaaDoorPAx3
import Derived.Test.YtoebcbhadcpcoaaDoorPAx9
namespace Go.Proofs.YtoebcbhadcpcoaaDoor.PA
open Go.RowKit Go.Proofs.YtoebcbhadcpcoaaDoorW.PrintWords Go.Proofs.YtoebcbhadcpcoaaDoorW.PrintLast Go.Proofs.YtoebcbhadcpcoaaDoorW.PrintMore
attribute [local go_sem] max2_int min2_int max_two min_two max_three min_three max_four min_four   -- for this text's walks alone
set_option linter.unusedVariables false
set_option linter.unusedSimpArgs false

/-! ### cubitlaw03_BitsBack: function 7 -/
mutual
def cubitlaw03_BitsBack.j1 : Nat → Int → Int → Option (Bool)
  | 0, _, _ => none
  | k + 1, x0, x3 => (bits_Close.f x0 x3).bind fun bt225 => (if bt225.2.2 = 0 then ((bits_Open.f k bt225.1 x3 bt225.2.1).bind fun bt228 => (if bt228.2 = 0 then (if bt228.1 = x0 then (if bt225.2.1 < 0 then (some false) else (if bt225.2.1 > 1 then (some false) else (cubitlaw03_BitsBack.j2 k x0 x3))) else (some false)) else (some false))) else (cubitlaw03_BitsBack.j2 k x0 x3))
def cubitlaw03_BitsBack.j2 : Nat → Int → Int → Option (Bool)
  | 0, _, _ => none
  | k + 1, x0, x3 => cubitlaw03_BitsBack.l0 k x0 x3 0
def cubitlaw03_BitsBack.l0 : Nat → Int → Int → Int → Option (Bool)
  | 0, _, _, _ => none
  | k + 1, x0, x3, x22 => if x22 < 2 then ((bits_Open.f k x0 x3 x22).bind fun bt230 => (if bt230.2 = 0 then ((bits_Close.f bt230.1 x3).bind fun bt232 => (if bt232.2.2 = 0 then (if bt232.1 = x0 then (if bt232.2.1 = x22 then (cubitlaw03_BitsBack.l0 k x0 x3 (wrap64 (x22 + 1))) else (some false)) else (some false)) else (some false))) else (cubitlaw03_BitsBack.l0 k x0 x3 (wrap64 (x22 + 1))))) else ((bits_Gray.f x0).bind fun t235 => ((bits_Ungray.f k t235).bind fun t236 => (if t236 = x0 then ((bits_Ungray.f k x0).bind fun t237 => ((bits_Gray.f t237).bind fun t238 => (cubitlaw03_BitsBack.j4 k x0 (t238 != x0)))) else (cubitlaw03_BitsBack.j4 k x0 true))))
def cubitlaw03_BitsBack.j4 : Nat → Int → Bool → Option (Bool)
  | 0, _, _ => none
  | k + 1, x0, x148 => if x148 = true then (some false) else (if x0 = 18446744073709551615 then (some true) else ((bits_Gray.f x0).bind fun t239 => ((bits_Gray.f (IntKind.u64.wrap (x0 + 1))).bind fun t240 => ((bits_Count.f (Go.bits .xor .u64 t239 t240)).bind fun t241 => (some (t241 == 1))))))
def cubitlaw03_BitsBack.j0 : Nat → Int → Int → List Int → Int → Bool → Option (Bool)
  | 0, _, _, _, _, _ => none
  | k + 1, x0, x1, x2, x3, x51 => if x51 = true then (some false) else ((bits_Put.f k x0 x2 x1).bind fun bt221 => (if bt221.2 = 0 then ((bits_Pick.f k bt221.1 x2).bind fun bt223 => (if bt223.2 = 0 then (if bt223.1 = x1 then (cubitlaw03_BitsBack.j1 k x0 x3) else (some false)) else (some false))) else (cubitlaw03_BitsBack.j1 k x0 x3)))
end
def cubitlaw03_BitsBack.f (k : Nat) (a0 : Int) (a1 : Int) (l2 : List Int) (a3 : Int) : Option (Bool) := (cubitlaw03_awake.f k).bind fun t216 => (if t216 = true then ((bits_Pick.f k a0 l2).bind fun bt217 => (if bt217.2 = 0 then ((bits_Put.f k a0 l2 bt217.1).bind fun bt219 => (if bt219.2 = 0 then (cubitlaw03_BitsBack.j0 k a0 a1 l2 a3 (bt219.1 != a0)) else (cubitlaw03_BitsBack.j0 k a0 a1 l2 a3 true))) else (cubitlaw03_BitsBack.j1 k a0 a3))) else (some false))
theorem cubitlaw03_BitsBack.mono_l : ∀ k, (∀ y0 y1, LeO (cubitlaw03_BitsBack.j1 k y0 y1) (cubitlaw03_BitsBack.j1 (k + 1) y0 y1)) ∧ (∀ y0 y1, LeO (cubitlaw03_BitsBack.j2 k y0 y1) (cubitlaw03_BitsBack.j2 (k + 1) y0 y1)) ∧ (∀ y0 y1 y2, LeO (cubitlaw03_BitsBack.l0 k y0 y1 y2) (cubitlaw03_BitsBack.l0 (k + 1) y0 y1 y2)) ∧ (∀ y0 y1, LeO (cubitlaw03_BitsBack.j4 k y0 y1) (cubitlaw03_BitsBack.j4 (k + 1) y0 y1)) ∧ (∀ y0 y1 y2 y3 y4, LeO (cubitlaw03_BitsBack.j0 k y0 y1 y2 y3 y4) (cubitlaw03_BitsBack.j0 (k + 1) y0 y1 y2 y3 y4))
  | 0 => ⟨fun _ _ r h => by simp [cubitlaw03_BitsBack.j1] at h, fun _ _ r h => by simp [cubitlaw03_BitsBack.j2] at h, fun _ _ _ r h => by simp [cubitlaw03_BitsBack.l0] at h, fun _ _ r h => by simp [cubitlaw03_BitsBack.j4] at h, fun _ _ _ _ _ r h => by simp [cubitlaw03_BitsBack.j0] at h⟩
  | k + 1 => by
    obtain ⟨ih0, ih1, ih2, ih3, ih4⟩ := cubitlaw03_BitsBack.mono_l k
    refine ⟨?_, ?_, ?_, ?_, ?_⟩
    · intro y0 y1
      unfold cubitlaw03_BitsBack.j1
      repeat' first
      | (with_reducible exact ih0 _ _)
      | (with_reducible exact ih1 _ _)
      | (with_reducible exact ih2 _ _ _)
      | (with_reducible exact ih3 _ _)
      | (with_reducible exact ih4 _ _ _ _ _)
      | (with_reducible exact bits_Open.mono _ _ _ _)
      | (with_reducible exact bits_Pick.mono _ _ _)
      | (with_reducible exact bits_Put.mono _ _ _ _)
      | (with_reducible exact bits_Ungray.mono _ _)
      | (with_reducible exact cubitlaw03_awake.mono _)
      | (with_reducible exact LeO.refl _)
      | (with_reducible exact LeO.none _)
      | (with_reducible refine LeO.ite ?_ ?_)
      | (with_reducible refine LeO.bind ?_ (fun _ => ?_))
      | exact ih0 _ _
      | exact ih1 _ _
      | exact ih2 _ _ _
      | exact ih3 _ _
      | exact ih4 _ _ _ _ _
      | exact bits_Open.mono _ _ _ _
      | exact bits_Pick.mono _ _ _
      | exact bits_Put.mono _ _ _ _
      | exact bits_Ungray.mono _ _
      | exact cubitlaw03_awake.mono _
      | exact LeO.none _
      | refine LeO.ite ?_ ?_
      | refine LeO.bind ?_ (fun _ => ?_)
    · intro y0 y1
      unfold cubitlaw03_BitsBack.j2
      repeat' first
      | (with_reducible exact ih0 _ _)
      | (with_reducible exact ih1 _ _)
      | (with_reducible exact ih2 _ _ _)
      | (with_reducible exact ih3 _ _)
      | (with_reducible exact ih4 _ _ _ _ _)
      | (with_reducible exact bits_Open.mono _ _ _ _)
      | (with_reducible exact bits_Pick.mono _ _ _)
      | (with_reducible exact bits_Put.mono _ _ _ _)
      | (with_reducible exact bits_Ungray.mono _ _)
      | (with_reducible exact cubitlaw03_awake.mono _)
      | (with_reducible exact LeO.refl _)
      | (with_reducible exact LeO.none _)
      | (with_reducible refine LeO.ite ?_ ?_)
      | (with_reducible refine LeO.bind ?_ (fun _ => ?_))
      | exact ih0 _ _
      | exact ih1 _ _
      | exact ih2 _ _ _
      | exact ih3 _ _
      | exact ih4 _ _ _ _ _
      | exact bits_Open.mono _ _ _ _
      | exact bits_Pick.mono _ _ _
      | exact bits_Put.mono _ _ _ _
      | exact bits_Ungray.mono _ _
      | exact cubitlaw03_awake.mono _
      | exact LeO.none _
      | refine LeO.ite ?_ ?_
      | refine LeO.bind ?_ (fun _ => ?_)
    · intro y0 y1 y2
      unfold cubitlaw03_BitsBack.l0
      repeat' first
      | (with_reducible exact ih0 _ _)
      | (with_reducible exact ih1 _ _)
      | (with_reducible exact ih2 _ _ _)
      | (with_reducible exact ih3 _ _)
      | (with_reducible exact ih4 _ _ _ _ _)
      | (with_reducible exact bits_Open.mono _ _ _ _)
      | (with_reducible exact bits_Pick.mono _ _ _)
      | (with_reducible exact bits_Put.mono _ _ _ _)
      | (with_reducible exact bits_Ungray.mono _ _)
      | (with_reducible exact cubitlaw03_awake.mono _)
      | (with_reducible exact LeO.refl _)
      | (with_reducible exact LeO.none _)
      | (with_reducible refine LeO.ite ?_ ?_)
      | (with_reducible refine LeO.bind ?_ (fun _ => ?_))
      | exact ih0 _ _
      | exact ih1 _ _
      | exact ih2 _ _ _
      | exact ih3 _ _
      | exact ih4 _ _ _ _ _
      | exact bits_Open.mono _ _ _ _
      | exact bits_Pick.mono _ _ _
      | exact bits_Put.mono _ _ _ _
      | exact bits_Ungray.mono _ _
      | exact cubitlaw03_awake.mono _
      | exact LeO.none _
      | refine LeO.ite ?_ ?_
      | refine LeO.bind ?_ (fun _ => ?_)
    · intro y0 y1
      unfold cubitlaw03_BitsBack.j4
      repeat' first
      | (with_reducible exact ih0 _ _)
      | (with_reducible exact ih1 _ _)
      | (with_reducible exact ih2 _ _ _)
      | (with_reducible exact ih3 _ _)
      | (with_reducible exact ih4 _ _ _ _ _)
      | (with_reducible exact bits_Open.mono _ _ _ _)
      | (with_reducible exact bits_Pick.mono _ _ _)
      | (with_reducible exact bits_Put.mono _ _ _ _)
      | (with_reducible exact bits_Ungray.mono _ _)
      | (with_reducible exact cubitlaw03_awake.mono _)
      | (with_reducible exact LeO.refl _)
      | (with_reducible exact LeO.none _)
      | (with_reducible refine LeO.ite ?_ ?_)
      | (with_reducible refine LeO.bind ?_ (fun _ => ?_))
      | exact ih0 _ _
      | exact ih1 _ _
      | exact ih2 _ _ _
      | exact ih3 _ _
      | exact ih4 _ _ _ _ _
      | exact bits_Open.mono _ _ _ _
      | exact bits_Pick.mono _ _ _
      | exact bits_Put.mono _ _ _ _
      | exact bits_Ungray.mono _ _
      | exact cubitlaw03_awake.mono _
      | exact LeO.none _
      | refine LeO.ite ?_ ?_
      | refine LeO.bind ?_ (fun _ => ?_)
    · intro y0 y1 y2 y3 y4
      unfold cubitlaw03_BitsBack.j0
      repeat' first
      | (with_reducible exact ih0 _ _)
      | (with_reducible exact ih1 _ _)
      | (with_reducible exact ih2 _ _ _)
      | (with_reducible exact ih3 _ _)
      | (with_reducible exact ih4 _ _ _ _ _)
      | (with_reducible exact bits_Open.mono _ _ _ _)
      | (with_reducible exact bits_Pick.mono _ _ _)
      | (with_reducible exact bits_Put.mono _ _ _ _)
      | (with_reducible exact bits_Ungray.mono _ _)
      | (with_reducible exact cubitlaw03_awake.mono _)
      | (with_reducible exact LeO.refl _)
      | (with_reducible exact LeO.none _)
      | (with_reducible refine LeO.ite ?_ ?_)
      | (with_reducible refine LeO.bind ?_ (fun _ => ?_))
      | exact ih0 _ _
      | exact ih1 _ _
      | exact ih2 _ _ _
      | exact ih3 _ _
      | exact ih4 _ _ _ _ _
      | exact bits_Open.mono _ _ _ _
      | exact bits_Pick.mono _ _ _
      | exact bits_Put.mono _ _ _ _
      | exact bits_Ungray.mono _ _
      | exact cubitlaw03_awake.mono _
      | exact LeO.none _
      | refine LeO.ite ?_ ?_
      | refine LeO.bind ?_ (fun _ => ?_)
theorem cubitlaw03_BitsBack.mono : ∀ a0 a1 a2 a3 k, LeO (cubitlaw03_BitsBack.f k a0 a1 a2 a3) (cubitlaw03_BitsBack.f (k + 1) a0 a1 a2 a3) := by
  intro a0 a1 a2 a3 k
  obtain ⟨ih0, ih1, ih2, ih3, ih4⟩ := cubitlaw03_BitsBack.mono_l k
  unfold cubitlaw03_BitsBack.f
  repeat' first
      | (with_reducible exact ih0 _ _)
      | (with_reducible exact ih1 _ _)
      | (with_reducible exact ih2 _ _ _)
      | (with_reducible exact ih3 _ _)
      | (with_reducible exact ih4 _ _ _ _ _)
      | (with_reducible exact bits_Open.mono _ _ _ _)
      | (with_reducible exact bits_Pick.mono _ _ _)
      | (with_reducible exact bits_Put.mono _ _ _ _)
      | (with_reducible exact bits_Ungray.mono _ _)
      | (with_reducible exact cubitlaw03_awake.mono _)
      | (with_reducible exact LeO.refl _)
      | (with_reducible exact LeO.none _)
      | (with_reducible refine LeO.ite ?_ ?_)
      | (with_reducible refine LeO.bind ?_ (fun _ => ?_))
      | exact ih0 _ _
      | exact ih1 _ _
      | exact ih2 _ _ _
      | exact ih3 _ _
      | exact ih4 _ _ _ _ _
      | exact bits_Open.mono _ _ _ _
      | exact bits_Pick.mono _ _ _
      | exact bits_Put.mono _ _ _ _
      | exact bits_Ungray.mono _ _
      | exact cubitlaw03_awake.mono _
      | exact LeO.none _
      | refine LeO.ite ?_ ?_
      | refine LeO.bind ?_ (fun _ => ?_)
set_option maxHeartbeats 8000000 in
set_option maxRecDepth 100000 in
theorem cubitlaw03_BitsBack.calls (k : Nat) (a0 : Int) (a1 : Int) (A2 : Option Addr) (c2 : Nat) (l2 : List Int) (a3 : Int) (r : Bool) (w : World) (hr2 : Kd.C (Kd.int .i64) w A2 l2.length l2) (hc2 : l2.length ≤ c2) (h : cubitlaw03_BitsBack.f k a0 a1 l2 a3 = some r) (htrue : r = true) :
    Calls Tryd.prog 7 #[.int .u64 a0, .int .u64 a1, .slice A2 l2.length c2, .int .i64 a3] w fun e w' => e = .returned (.bool r) ∧ Below w.heap.size w w' := by
  have HR2 := Aside0.mk hr2
  have HC2 := Aside0.mk hc2
  clear hr2 hc2
  have HB := Aside0.mk (Below.refl w.heap.size w)
  have HTRUE := Aside0.mk htrue
  clear htrue
  have H : ((cubitlaw03_awake.f k).bind fun t216 => (if t216 = true then ((bits_Pick.f k a0 l2).bind fun bt217 => (if bt217.2 = 0 then ((bits_Put.f k a0 l2 bt217.1).bind fun bt219 => (if bt219.2 = 0 then (cubitlaw03_BitsBack.j0 k a0 a1 l2 a3 (bt219.1 != a0)) else (cubitlaw03_BitsBack.j0 k a0 a1 l2 a3 true))) else (cubitlaw03_BitsBack.j1 k a0 a3))) else (some false))) = some r := h
  clear h
  replace H := Option.bind_eq_some_iff.mp H
  obtain ⟨t216, A50, H⟩ := H
  replace H : (if t216 = true then ((bits_Pick.f k a0 l2).bind fun bt217 => (if bt217.2 = 0 then ((bits_Put.f k a0 l2 bt217.1).bind fun bt219 => (if bt219.2 = 0 then (cubitlaw03_BitsBack.j0 k a0 a1 l2 a3 (bt219.1 != a0)) else (cubitlaw03_BitsBack.j0 k a0 a1 l2 a3 true))) else (cubitlaw03_BitsBack.j1 k a0 a3))) else (some false)) = some r := H
  have A5 := Aside0.mk A50
  clear A50
  by_cases c6 : t216 = true
  · subst c6
    have H1 : ((bits_Pick.f k a0 l2).bind fun bt217 => (if bt217.2 = 0 then ((bits_Put.f k a0 l2 bt217.1).bind fun bt219 => (if bt219.2 = 0 then (cubitlaw03_BitsBack.j0 k a0 a1 l2 a3 (bt219.1 != a0)) else (cubitlaw03_BitsBack.j0 k a0 a1 l2 a3 true))) else (cubitlaw03_BitsBack.j1 k a0 a3))) = some r := by rw [if_pos rfl] at H; exact H
    clear H
    have H := H1
    clear H1
    replace H := Option.bind_eq_some_iff.mp H
    obtain ⟨⟨t217, t218⟩, A70, H⟩ := H
    replace H : (if t218 = 0 then ((bits_Put.f k a0 l2 t217).bind fun bt219 => (if bt219.2 = 0 then (cubitlaw03_BitsBack.j0 k a0 a1 l2 a3 (bt219.1 != a0)) else (cubitlaw03_BitsBack.j0 k a0 a1 l2 a3 true))) else (cubitlaw03_BitsBack.j1 k a0 a3)) = some r := H
    have A7 := Aside0.mk A70
    clear A70
    have HC8 := Aside0.mk H
    clear H
    go_enter Tryd.func7, Tryd.ntmps7
    go_upto_if 37 with (first | ((with_reducible refine gate_callee (f := 9) rfl ?_); refine goesL_ (some 28) rfl rfl Tryd.func9 (by kernel_rfl) rfl #[] rfl (by (try simp only [List.map_toArray, List.map_cons, List.map_nil]); first | done | rfl | (simp only [List.length_drop, List.length_take]; rfl)) ?_; (with_reducible refine (cubitlaw03_awake.calls k  true _ A5.out).mono ?_); rintro e w9 ⟨rfl, hb⟩; refine ⟨_, rfl, ?_⟩; have n0_ := Aside0.mk (below_step (by repeat (first | (with_reducible first | exact HB.out | apply below_alloc | apply pw_below_drewN | apply below_drew1) | exact HB.out)) hb); clear HB; have HB := n0_; clear n0_; (try clear hb); (try clear hb2); (try clear hk); (try clear hi)) | ((with_reducible refine gate_callee (f := 11) rfl ?_); refine goesL_ (some 33) rfl rfl Tryd.func11 (by kernel_rfl) rfl #[.int .u64 a0, .slice A2 l2.length c2] rfl (by (try simp only [List.map_toArray, List.map_cons, List.map_nil]); first | done | rfl | (simp only [List.length_drop, List.length_take]; rfl)) ?_; (with_reducible refine (bits_Pick.calls k a0 _ _ l2 t217 t218 _ ?side1 ?side2 A7.out).mono ?_); (case side1 => repeat (first | exact (Kd.C_below HR2.out HB.out) | (with_reducible refine Kd.C_alloc ?_ _) | (with_reducible refine Kd.C_drewN ?_ _) | (with_reducible refine Kd.C_drew ?_))); (case side2 => exact HC2.out); rintro e w' ⟨rfl, ⟨nd, rfl⟩⟩; refine ⟨_, rfl, ?_⟩))
    (try simp only [Act.put, List.setIfInBounds_toArray, List.set_cons_zero, List.set_cons_succ])
    go_cut [] (fun wc => ∃ (kq : Nat), Aside0 (cubitlaw03_BitsBack.j1 kq a0 a3 = some r) ∧ Aside0 (kq ≤ k) ∧ Aside0 (Below w.heap.size w wc))
    case first =>
      have H := HC8.out
      clear HC8
      by_cases c10 : t218 = 0
      · rw [if_pos c10] at H
        have c10b0 : (t218 == 0) = true := beq_iff_eq.mpr c10
        have c10b1 : (t218 != 0) = false := bne_eq_false_iff_eq.mpr c10
        clear c10
        (first | rw [c10b0] | (simp only [i64_w, i32_w]; rw [c10b0]) | skip)
        replace H := Option.bind_eq_some_iff.mp H
        obtain ⟨⟨t219, t220⟩, A110, H⟩ := H
        replace H : (if t220 = 0 then (cubitlaw03_BitsBack.j0 k a0 a1 l2 a3 (t219 != a0)) else (cubitlaw03_BitsBack.j0 k a0 a1 l2 a3 true)) = some r := H
        have A11 := Aside0.mk A110
        clear A110
        have HC12 := Aside0.mk H
        clear H
        go_upto_region 6 with (first | ((with_reducible refine gate_callee (f := 13) rfl ?_); refine goesL_ (some 42) rfl rfl Tryd.func13 (by kernel_rfl) rfl #[.int .u64 a0, .slice A2 l2.length c2, .int .u64 t217] rfl (by (try simp only [List.map_toArray, List.map_cons, List.map_nil]); first | done | rfl | (simp only [List.length_drop, List.length_take]; rfl)) ?_; (with_reducible refine (bits_Put.calls k a0 _ _ l2 t217 t219 t220 _ ?side1 ?side2 A11.out).mono ?_); (case side1 => repeat (first | exact (Kd.C_below HR2.out HB.out) | (with_reducible refine Kd.C_alloc ?_ _) | (with_reducible refine Kd.C_drewN ?_ _) | (with_reducible refine Kd.C_drew ?_))); (case side2 => exact HC2.out); rintro e w' ⟨rfl, ⟨nd, rfl⟩⟩; refine ⟨_, rfl, ?_⟩))
        (try simp only [Act.put, List.setIfInBounds_toArray, List.set_cons_zero, List.set_cons_succ])
        go_cut [51] (fun v51 wc => ∃ (kq : Nat) (x51_11 : Bool), v51 = .bool x51_11 ∧ Aside0 (cubitlaw03_BitsBack.j0 kq a0 a1 l2 a3 x51_11 = some r) ∧ Aside0 (kq ≤ k) ∧ Aside0 (Below w.heap.size w wc))
        case first =>
          have H := HC12.out
          clear HC12
          by_cases c13 : t220 = 0
          · rw [if_pos c13] at H
            have c13b0 : (t220 == 0) = true := beq_iff_eq.mpr c13
            have c13b1 : (t220 != 0) = false := bne_eq_false_iff_eq.mpr c13
            clear c13
            (first | rw [c13b0] | (simp only [i64_w, i32_w]; rw [c13b0]) | skip)
            have H' := Aside0.mk H
            clear H
            go_wp2
            go_meet
            case rel => exact ⟨_, ((t219 != a0)), (by first | rfl | (simp; done) | (simp [*]; done)), H', ⟨by first | omega | exact Nat.le_refl _⟩, ⟨by repeat (first | (with_reducible first | exact HB.out | apply below_alloc | apply pw_below_drewN | apply below_drew1) | exact HB.out)⟩⟩
          · rw [if_neg c13] at H
            have c13b0 : (t220 == 0) = false := beq_eq_false_iff_ne.mpr c13
            have c13b1 : (t220 != 0) = true := bne_iff_ne.mpr c13
            (first | rw [c13b0] | (simp only [i64_w, i32_w]; rw [c13b0]) | skip)
            have H' := Aside0.mk H
            clear H
            go_wp2
            go_meet
            case rel => exact ⟨_, (true), (by first | rfl | (simp; done) | (simp [*]; done)), H', ⟨by first | omega | exact Nat.le_refl _⟩, ⟨by repeat (first | (with_reducible first | exact HB.out | apply below_alloc | apply pw_below_drewN | apply below_drew1) | exact HB.out)⟩⟩
        case rest =>
          clear HC12
          try clear c1
          try clear c2
          try clear p2
          try clear c6
          try clear c7
          try clear c9
          try clear c10
          try clear c10b0
          try clear c10b1
          try clear c11
          try clear c13
          try clear c13b0
          try clear c13b1
          obtain ⟨kq, x51_11, rfl, HA, HJ11, HB⟩ := hcut
          cases kq with
          | zero => exact absurd HA.out (by simp [cubitlaw03_BitsBack.j0])
          | succ kj11 =>
            have H := HA.out
            clear HA
            simp only [cubitlaw03_BitsBack.j0] at H
            by_cases c14 : x51_11 = true
            · subst c14
              have H1 : (some false) = some r := by rw [if_pos rfl] at H; exact H
              clear H
              have H := H1
              clear H1
              exact absurd (HTRUE.out.symm.trans (Option.some.inj H).symm) (by decide)
            · replace c14 := Bool.eq_false_iff.mpr c14
              subst c14
              have H1 : ((bits_Put.f kj11 a0 l2 a1).bind fun bt221 => (if bt221.2 = 0 then ((bits_Pick.f kj11 bt221.1 l2).bind fun bt223 => (if bt223.2 = 0 then (if bt223.1 = a1 then (cubitlaw03_BitsBack.j1 kj11 a0 a3) else (some false)) else (some false))) else (cubitlaw03_BitsBack.j1 kj11 a0 a3))) = some r := by rw [if_neg (show ¬ (false = true) by decide)] at H; exact H
              clear H
              have H := H1
              clear H1
              replace H := Option.bind_eq_some_iff.mp H
              obtain ⟨⟨t221, t222⟩, A150, H⟩ := H
              replace H : (if t222 = 0 then ((bits_Pick.f kj11 t221 l2).bind fun bt223 => (if bt223.2 = 0 then (if bt223.1 = a1 then (cubitlaw03_BitsBack.j1 kj11 a0 a3) else (some false)) else (some false))) else (cubitlaw03_BitsBack.j1 kj11 a0 a3)) = some r := H
              have A15 := Aside0.mk A150
              clear A150
              by_cases c16 : t222 = 0
              · rw [if_pos c16] at H
                have c16b0 : (t222 == 0) = true := beq_iff_eq.mpr c16
                have c16b1 : (t222 != 0) = false := bne_eq_false_iff_eq.mpr c16
                clear c16
                replace H := Option.bind_eq_some_iff.mp H
                obtain ⟨⟨t223, t224⟩, A170, H⟩ := H
                replace H : (if t224 = 0 then (if t223 = a1 then (cubitlaw03_BitsBack.j1 kj11 a0 a3) else (some false)) else (some false)) = some r := H
                have A17 := Aside0.mk A170
                clear A170
                by_cases c18 : t224 = 0
                · rw [if_pos c18] at H
                  have c18b0 : (t224 == 0) = true := beq_iff_eq.mpr c18
                  have c18b1 : (t224 != 0) = false := bne_eq_false_iff_eq.mpr c18
                  clear c18
                  by_cases c19 : t223 = a1
                  · rw [if_pos c19] at H
                    have c19b0 : (t223 == a1) = true := beq_iff_eq.mpr c19
                    have c19b1 : (t223 != a1) = false := bne_eq_false_iff_eq.mpr c19
                    clear c19
                    have H' := Aside0.mk H
                    clear H
                    go_wp2_with (first | ((with_reducible refine gate_callee (f := 13) rfl ?_); refine goesL_ (some 56) rfl rfl Tryd.func13 (by kernel_rfl) rfl #[.int .u64 a0, .slice A2 l2.length c2, .int .u64 a1] rfl (by (try simp only [List.map_toArray, List.map_cons, List.map_nil]); first | done | rfl | (simp only [List.length_drop, List.length_take]; rfl)) ?_; (with_reducible refine (bits_Put.calls kj11 a0 _ _ l2 a1 t221 t222 _ ?side1 ?side2 A15.out).mono ?_); (case side1 => repeat (first | exact (Kd.C_below HR2.out HB.out) | (with_reducible refine Kd.C_alloc ?_ _) | (with_reducible refine Kd.C_drewN ?_ _) | (with_reducible refine Kd.C_drew ?_))); (case side2 => exact HC2.out); rintro e w' ⟨rfl, ⟨nd, rfl⟩⟩; refine ⟨_, rfl, ?_⟩) | ((with_reducible refine gate_callee (f := 11) rfl ?_); refine goesL_ (some 64) rfl rfl Tryd.func11 (by kernel_rfl) rfl #[.int .u64 t221, .slice A2 l2.length c2] rfl (by (try simp only [List.map_toArray, List.map_cons, List.map_nil]); first | done | rfl | (simp only [List.length_drop, List.length_take]; rfl)) ?_; (with_reducible refine (bits_Pick.calls kj11 t221 _ _ l2 t223 t224 _ ?side1 ?side2 A17.out).mono ?_); (case side1 => repeat (first | exact (Kd.C_below HR2.out (by repeat (first | (with_reducible first | exact HB.out | apply below_alloc | apply pw_below_drewN | apply below_drew1) | exact HB.out))) | (with_reducible refine Kd.C_alloc ?_ _) | (with_reducible refine Kd.C_drewN ?_ _) | (with_reducible refine Kd.C_drew ?_))); (case side2 => exact HC2.out); rintro e w' ⟨rfl, ⟨nd, rfl⟩⟩; refine ⟨_, rfl, ?_⟩))
                    go_meet
                    case rel => exact ⟨_, H', ⟨by have := HJ11.out; first | omega | exact Nat.le_refl _⟩, ⟨by repeat (first | (with_reducible first | exact HB.out | apply below_alloc | apply pw_below_drewN | apply below_drew1) | exact HB.out)⟩⟩
                  · rw [if_neg c19] at H
                    have c19b0 : (t223 == a1) = false := beq_eq_false_iff_ne.mpr c19
                    have c19b1 : (t223 != a1) = true := bne_iff_ne.mpr c19
                    exact absurd (HTRUE.out.symm.trans (Option.some.inj H).symm) (by decide)
                · rw [if_neg c18] at H
                  have c18b0 : (t224 == 0) = false := beq_eq_false_iff_ne.mpr c18
                  have c18b1 : (t224 != 0) = true := bne_iff_ne.mpr c18
                  exact absurd (HTRUE.out.symm.trans (Option.some.inj H).symm) (by decide)
              · rw [if_neg c16] at H
                have c16b0 : (t222 == 0) = false := beq_eq_false_iff_ne.mpr c16
                have c16b1 : (t222 != 0) = true := bne_iff_ne.mpr c16
                have H' := Aside0.mk H
                clear H
                go_wp2_with (first | ((with_reducible refine gate_callee (f := 13) rfl ?_); refine goesL_ (some 56) rfl rfl Tryd.func13 (by kernel_rfl) rfl #[.int .u64 a0, .slice A2 l2.length c2, .int .u64 a1] rfl (by (try simp only [List.map_toArray, List.map_cons, List.map_nil]); first | done | rfl | (simp only [List.length_drop, List.length_take]; rfl)) ?_; (with_reducible refine (bits_Put.calls kj11 a0 _ _ l2 a1 t221 t222 _ ?side1 ?side2 A15.out).mono ?_); (case side1 => repeat (first | exact (Kd.C_below HR2.out HB.out) | (with_reducible refine Kd.C_alloc ?_ _) | (with_reducible refine Kd.C_drewN ?_ _) | (with_reducible refine Kd.C_drew ?_))); (case side2 => exact HC2.out); rintro e w' ⟨rfl, ⟨nd, rfl⟩⟩; refine ⟨_, rfl, ?_⟩))
                go_meet
                case rel => exact ⟨_, H', ⟨by have := HJ11.out; first | omega | exact Nat.le_refl _⟩, ⟨by repeat (first | (with_reducible first | exact HB.out | apply below_alloc | apply pw_below_drewN | apply below_drew1) | exact HB.out)⟩⟩
      · rw [if_neg c10] at H
        have c10b0 : (t218 == 0) = false := beq_eq_false_iff_ne.mpr c10
        have c10b1 : (t218 != 0) = true := bne_iff_ne.mpr c10
        (first | rw [c10b0] | (simp only [i64_w, i32_w]; rw [c10b0]) | skip)
        have H' := Aside0.mk H
        clear H
        go_wp2
        go_meet
        case rel => exact ⟨_, H', ⟨by first | omega | exact Nat.le_refl _⟩, ⟨by repeat (first | (with_reducible first | exact HB.out | apply below_alloc | apply pw_below_drewN | apply below_drew1) | exact HB.out)⟩⟩
    case rest =>
      clear HC8
      try clear c1
      try clear c2
      try clear p2
      try clear c6
      try clear c7
      try clear c9
      try clear c10
      try clear c10b0
      try clear c10b1
      try clear c11
      try clear c13
      try clear c13b0
      try clear c13b1
      try clear c14
      try clear c16
      try clear c16b0
      try clear c16b1
      try clear c18
      try clear c18b0
      try clear c18b1
      try clear c19
      try clear c19b0
      try clear c19b1
      try clear p2
      obtain ⟨kq, HA, HJ7, HB⟩ := hcut
      cases kq with
      | zero => exact absurd HA.out (by simp [cubitlaw03_BitsBack.j1])
      | succ kj7 =>
        have H := HA.out
        clear HA
        simp only [cubitlaw03_BitsBack.j1] at H
        replace H := Option.bind_eq_some_iff.mp H
        obtain ⟨⟨t225, t226, t227⟩, A200, H⟩ := H
        replace H : (if t227 = 0 then ((bits_Open.f kj7 t225 a3 t226).bind fun bt228 => (if bt228.2 = 0 then (if bt228.1 = a0 then (if t226 < 0 then (some false) else (if t226 > 1 then (some false) else (cubitlaw03_BitsBack.j2 kj7 a0 a3))) else (some false)) else (some false))) else (cubitlaw03_BitsBack.j2 kj7 a0 a3)) = some r := H
        have A20 := Aside0.mk A200
        clear A200
        have HC21 := Aside0.mk H
        clear H
        go_upto_if 82 with (first | ((with_reducible refine gate_callee (f := 23) rfl ?_); refine goesL_ (some 77) rfl rfl Tryd.func23 (by kernel_rfl) rfl #[.int .u64 a0, .int .i64 a3] rfl (by (try simp only [List.map_toArray, List.map_cons, List.map_nil]); first | done | rfl | (simp only [List.length_drop, List.length_take]; rfl)) ?_; (with_reducible refine (bits_Close.calls a0 a3 t225 t226 t227 _ A20.out).mono ?_); rintro e w' ⟨rfl, ⟨nd, rfl⟩⟩; refine ⟨_, rfl, ?_⟩))
        (try simp only [Act.put, List.setIfInBounds_toArray, List.set_cons_zero, List.set_cons_succ])
        go_cut [] (fun wc => ∃ (kq : Nat), Aside0 (cubitlaw03_BitsBack.j2 kq a0 a3 = some r) ∧ Aside0 (kq ≤ kj7) ∧ Aside0 (Below w.heap.size w wc))
        case first =>
          have H := HC21.out
          clear HC21
          by_cases c22 : t227 = 0
          · rw [if_pos c22] at H
            have c22b0 : (t227 == 0) = true := beq_iff_eq.mpr c22
            have c22b1 : (t227 != 0) = false := bne_eq_false_iff_eq.mpr c22
            clear c22
            (first | rw [c22b0] | (simp only [i64_w, i32_w]; rw [c22b0]) | skip)
            replace H := Option.bind_eq_some_iff.mp H
            obtain ⟨⟨t228, t229⟩, A230, H⟩ := H
            replace H : (if t229 = 0 then (if t228 = a0 then (if t226 < 0 then (some false) else (if t226 > 1 then (some false) else (cubitlaw03_BitsBack.j2 kj7 a0 a3))) else (some false)) else (some false)) = some r := H
            have A23 := Aside0.mk A230
            clear A230
            by_cases c24 : t229 = 0
            · rw [if_pos c24] at H
              have c24b0 : (t229 == 0) = true := beq_iff_eq.mpr c24
              have c24b1 : (t229 != 0) = false := bne_eq_false_iff_eq.mpr c24
              clear c24
              by_cases c25 : t228 = a0
              · rw [if_pos c25] at H
                have c25b0 : (t228 == a0) = true := beq_iff_eq.mpr c25
                have c25b1 : (t228 != a0) = false := bne_eq_false_iff_eq.mpr c25
                clear c25
                by_cases c26 : t226 < 0
                · rw [if_pos c26] at H
                  have c26b0 : decide (t226 < 0) = true := decide_eq_true c26
                  clear c26
                  exact absurd (HTRUE.out.symm.trans (Option.some.inj H).symm) (by decide)
                · rw [if_neg c26] at H
                  have c26b0 : decide (t226 < 0) = false := decide_eq_false c26
                  clear c26
                  by_cases c27 : t226 > 1
                  · rw [if_pos c27] at H
                    have c27b0 : decide (1 < t226) = true := decide_eq_true c27
                    clear c27
                    exact absurd (HTRUE.out.symm.trans (Option.some.inj H).symm) (by decide)
                  · rw [if_neg c27] at H
                    have c27b0 : decide (1 < t226) = false := decide_eq_false c27
                    clear c27
                    have H' := Aside0.mk H
                    clear H
                    go_wp2_with (first | ((with_reducible refine gate_callee (f := 24) rfl ?_); refine goesL_ (some 87) rfl rfl Tryd.func24 (by kernel_rfl) rfl #[.int .u64 t225, .int .i64 a3, .int .i64 t226] rfl (by (try simp only [List.map_toArray, List.map_cons, List.map_nil]); first | done | rfl | (simp only [List.length_drop, List.length_take]; rfl)) ?_; (with_reducible refine (bits_Open.calls kj7 t225 a3 t226 t228 t229 _ A23.out).mono ?_); rintro e w' ⟨rfl, ⟨nd, rfl⟩⟩; refine ⟨_, rfl, ?_⟩))
                    go_meet
                    case rel => exact ⟨_, H', ⟨by have := HJ7.out; first | omega | exact Nat.le_refl _⟩, ⟨by repeat (first | (with_reducible first | exact HB.out | apply below_alloc | apply pw_below_drewN | apply below_drew1) | exact HB.out)⟩⟩
              · rw [if_neg c25] at H
                have c25b0 : (t228 == a0) = false := beq_eq_false_iff_ne.mpr c25
                have c25b1 : (t228 != a0) = true := bne_iff_ne.mpr c25
                exact absurd (HTRUE.out.symm.trans (Option.some.inj H).symm) (by decide)
            · rw [if_neg c24] at H
              have c24b0 : (t229 == 0) = false := beq_eq_false_iff_ne.mpr c24
              have c24b1 : (t229 != 0) = true := bne_iff_ne.mpr c24
              exact absurd (HTRUE.out.symm.trans (Option.some.inj H).symm) (by decide)
          · rw [if_neg c22] at H
            have c22b0 : (t227 == 0) = false := beq_eq_false_iff_ne.mpr c22
            have c22b1 : (t227 != 0) = true := bne_iff_ne.mpr c22
            (first | rw [c22b0] | (simp only [i64_w, i32_w]; rw [c22b0]) | skip)
            have H' := Aside0.mk H
            clear H
            go_wp2
            go_meet
            case rel => exact ⟨_, H', ⟨by have := HJ7.out; first | omega | exact Nat.le_refl _⟩, ⟨by repeat (first | (with_reducible first | exact HB.out | apply below_alloc | apply pw_below_drewN | apply below_drew1) | exact HB.out)⟩⟩
        case rest =>
          clear HC21
          try clear c1
          try clear c2
          try clear p2
          try clear c6
          try clear c7
          try clear c9
          try clear c10
          try clear c10b0
          try clear c10b1
          try clear c11
          try clear c13
          try clear c13b0
          try clear c13b1
          try clear c14
          try clear c16
          try clear c16b0
          try clear c16b1
          try clear c18
          try clear c18b0
          try clear c18b1
          try clear c19
          try clear c19b0
          try clear c19b1
          try clear c22
          try clear c22b0
          try clear c22b1
          try clear c23
          try clear c24
          try clear c24b0
          try clear c24b1
          try clear c25
          try clear c25b0
          try clear c25b1
          try clear c26
          try clear c26b0
          try clear c27
          try clear c27b0
          try clear p2
          obtain ⟨kq, HA, HJ20, HB⟩ := hcut
          cases kq with
          | zero => exact absurd HA.out (by simp [cubitlaw03_BitsBack.j2])
          | succ kj20 =>
            have H := HA.out
            clear HA
            simp only [cubitlaw03_BitsBack.j2] at H
            have H' := Aside0.mk H
            clear H
            go_wp2
            go_loopg [22] kj20 (fun kq v22 w' => ∃ (x22_3 : Int), v22 = .int .i64 x22_3 ∧ Aside0 (cubitlaw03_BitsBack.l0 kq a0 a3 x22_3 = some r) ∧ Aside0 (kq ≤ kj20) ∧ Aside0 (Below w.heap.size w w'))
            case atStart => exact ⟨(0), (by first | rfl | (simp; done) | (simp [*]; done)), H', ⟨Nat.le_refl _⟩, ⟨by repeat (first | (with_reducible first | exact HB.out | apply below_alloc | apply pw_below_drewN | apply below_drew1) | exact HB.out)⟩⟩
            case round =>
              clear H'
              try clear c1
              try clear c2
              try clear p2
              try clear c6
              try clear c7
              try clear c9
              try clear c10
              try clear c10b0
              try clear c10b1
              try clear c11
              try clear c13
              try clear c13b0
              try clear c13b1
              try clear c14
              try clear c16
              try clear c16b0
              try clear c16b1
              try clear c18
              try clear c18b0
              try clear c18b1
              try clear c19
              try clear c19b0
              try clear c19b1
              try clear c22
              try clear c22b0
              try clear c22b1
              try clear c23
              try clear c24
              try clear c24b0
              try clear c24b1
              try clear c25
              try clear c25b0
              try clear c25b1
              try clear c26
              try clear c26b0
              try clear c27
              try clear c27b0
              try clear p2
              obtain ⟨x22_3, rfl, HA, HK3, HB⟩ := hrel
              cases gk with
              | zero => exact absurd HA.out (by simp [cubitlaw03_BitsBack.l0])
              | succ k3 =>
                have H := HA.out
                clear HA
                simp only [cubitlaw03_BitsBack.l0] at H
                by_cases c28 : x22_3 < 2
                · rw [if_pos c28] at H
                  have c28b0 : decide (x22_3 < 2) = true := decide_eq_true c28
                  clear c28
                  replace H := Option.bind_eq_some_iff.mp H
                  obtain ⟨⟨t230, t231⟩, A290, H⟩ := H
                  replace H : (if t231 = 0 then ((bits_Close.f t230 a3).bind fun bt232 => (if bt232.2.2 = 0 then (if bt232.1 = a0 then (if bt232.2.1 = x22_3 then (cubitlaw03_BitsBack.l0 k3 a0 a3 (wrap64 (x22_3 + 1))) else (some false)) else (some false)) else (some false))) else (cubitlaw03_BitsBack.l0 k3 a0 a3 (wrap64 (x22_3 + 1)))) = some r := H
                  have A29 := Aside0.mk A290
                  clear A290
                  by_cases c30 : t231 = 0
                  · rw [if_pos c30] at H
                    have c30b0 : (t231 == 0) = true := beq_iff_eq.mpr c30
                    have c30b1 : (t231 != 0) = false := bne_eq_false_iff_eq.mpr c30
                    clear c30
                    replace H := Option.bind_eq_some_iff.mp H
                    obtain ⟨⟨t232, t233, t234⟩, A310, H⟩ := H
                    replace H : (if t234 = 0 then (if t232 = a0 then (if t233 = x22_3 then (cubitlaw03_BitsBack.l0 k3 a0 a3 (wrap64 (x22_3 + 1))) else (some false)) else (some false)) else (some false)) = some r := H
                    have A31 := Aside0.mk A310
                    clear A310
                    by_cases c32 : t234 = 0
                    · rw [if_pos c32] at H
                      have c32b0 : (t234 == 0) = true := beq_iff_eq.mpr c32
                      have c32b1 : (t234 != 0) = false := bne_eq_false_iff_eq.mpr c32
                      clear c32
                      by_cases c33 : t232 = a0
                      · rw [if_pos c33] at H
                        have c33b0 : (t232 == a0) = true := beq_iff_eq.mpr c33
                        have c33b1 : (t232 != a0) = false := bne_eq_false_iff_eq.mpr c33
                        clear c33
                        by_cases c34 : t233 = x22_3
                        · rw [if_pos c34] at H
                          have c34b0 : (t233 == x22_3) = true := beq_iff_eq.mpr c34
                          have c34b1 : (t233 != x22_3) = false := bne_eq_false_iff_eq.mpr c34
                          clear c34
                          have H' := Aside0.mk H
                          clear H
                          go_wp2_with (first | ((with_reducible refine gate_callee (f := 24) rfl ?_); refine goesL_ (some 113) rfl rfl Tryd.func24 (by kernel_rfl) rfl #[.int .u64 a0, .int .i64 a3, .int .i64 x22_3] rfl (by (try simp only [List.map_toArray, List.map_cons, List.map_nil]); first | done | rfl | (simp only [List.length_drop, List.length_take]; rfl)) ?_; (with_reducible refine (bits_Open.calls k3 a0 a3 x22_3 t230 t231 _ A29.out).mono ?_); rintro e w' ⟨rfl, ⟨nd, rfl⟩⟩; refine ⟨_, rfl, ?_⟩) | ((with_reducible refine gate_callee (f := 23) rfl ?_); refine goesL_ (some 121) rfl rfl Tryd.func23 (by kernel_rfl) rfl #[.int .u64 t230, .int .i64 a3] rfl (by (try simp only [List.map_toArray, List.map_cons, List.map_nil]); first | done | rfl | (simp only [List.length_drop, List.length_take]; rfl)) ?_; (with_reducible refine (bits_Close.calls t230 a3 t232 t233 t234 _ A31.out).mono ?_); rintro e w' ⟨rfl, ⟨nd, rfl⟩⟩; refine ⟨_, rfl, ?_⟩))
                          go_roundg k3
                          case measure => have := HJ7.out; have := HJ20.out; have := HK3.out; omega
                          case rel => exact ⟨(wrap64 (x22_3 + 1)), (by first | rfl | (simp; done) | (simp [*]; done)), H', ⟨by have := HJ7.out; have := HJ20.out; have := HK3.out; omega⟩, ⟨by repeat (first | (with_reducible first | exact HB.out | apply below_alloc | apply pw_below_drewN | apply below_drew1) | exact HB.out)⟩⟩
                        · rw [if_neg c34] at H
                          have c34b0 : (t233 == x22_3) = false := beq_eq_false_iff_ne.mpr c34
                          have c34b1 : (t233 != x22_3) = true := bne_iff_ne.mpr c34
                          exact absurd (HTRUE.out.symm.trans (Option.some.inj H).symm) (by decide)
                      · rw [if_neg c33] at H
                        have c33b0 : (t232 == a0) = false := beq_eq_false_iff_ne.mpr c33
                        have c33b1 : (t232 != a0) = true := bne_iff_ne.mpr c33
                        exact absurd (HTRUE.out.symm.trans (Option.some.inj H).symm) (by decide)
                    · rw [if_neg c32] at H
                      have c32b0 : (t234 == 0) = false := beq_eq_false_iff_ne.mpr c32
                      have c32b1 : (t234 != 0) = true := bne_iff_ne.mpr c32
                      exact absurd (HTRUE.out.symm.trans (Option.some.inj H).symm) (by decide)
                  · rw [if_neg c30] at H
                    have c30b0 : (t231 == 0) = false := beq_eq_false_iff_ne.mpr c30
                    have c30b1 : (t231 != 0) = true := bne_iff_ne.mpr c30
                    have H' := Aside0.mk H
                    clear H
                    go_wp2_with (first | ((with_reducible refine gate_callee (f := 24) rfl ?_); refine goesL_ (some 113) rfl rfl Tryd.func24 (by kernel_rfl) rfl #[.int .u64 a0, .int .i64 a3, .int .i64 x22_3] rfl (by (try simp only [List.map_toArray, List.map_cons, List.map_nil]); first | done | rfl | (simp only [List.length_drop, List.length_take]; rfl)) ?_; (with_reducible refine (bits_Open.calls k3 a0 a3 x22_3 t230 t231 _ A29.out).mono ?_); rintro e w' ⟨rfl, ⟨nd, rfl⟩⟩; refine ⟨_, rfl, ?_⟩))
                    go_roundg k3
                    case measure => have := HJ7.out; have := HJ20.out; have := HK3.out; omega
                    case rel => exact ⟨(wrap64 (x22_3 + 1)), (by first | rfl | (simp; done) | (simp [*]; done)), H', ⟨by have := HJ7.out; have := HJ20.out; have := HK3.out; omega⟩, ⟨by repeat (first | (with_reducible first | exact HB.out | apply below_alloc | apply pw_below_drewN | apply below_drew1) | exact HB.out)⟩⟩
                · rw [if_neg c28] at H
                  have c28b0 : decide (x22_3 < 2) = false := decide_eq_false c28
                  clear c28
                  have HC35 := Aside0.mk H
                  clear H
                  go_upto_region 26 with (fail)
                  go_cut [148] (fun v148 wc => ∃ (kq : Nat) (x148_34 : Bool), v148 = .bool x148_34 ∧ Aside0 (cubitlaw03_BitsBack.j4 kq a0 x148_34 = some r) ∧ Aside0 (kq ≤ k3) ∧ Aside0 (Below w.heap.size w wc))
                  case first =>
                    have H := HC35.out
                    clear HC35
                    replace H := Option.bind_eq_some_iff.mp H
                    obtain ⟨t235, A360, H⟩ := H
                    replace H : ((bits_Ungray.f k3 t235).bind fun t236 => (if t236 = a0 then ((bits_Ungray.f k3 a0).bind fun t237 => ((bits_Gray.f t237).bind fun t238 => (cubitlaw03_BitsBack.j4 k3 a0 (t238 != a0)))) else (cubitlaw03_BitsBack.j4 k3 a0 true))) = some r := H
                    have A36 := Aside0.mk A360
                    clear A360
                    replace H := Option.bind_eq_some_iff.mp H
                    obtain ⟨t236, A370, H⟩ := H
                    replace H : (if t236 = a0 then ((bits_Ungray.f k3 a0).bind fun t237 => ((bits_Gray.f t237).bind fun t238 => (cubitlaw03_BitsBack.j4 k3 a0 (t238 != a0)))) else (cubitlaw03_BitsBack.j4 k3 a0 true)) = some r := H
                    have A37 := Aside0.mk A370
                    clear A370
                    by_cases c38 : t236 = a0
                    · rw [if_pos c38] at H
                      have c38b0 : (t236 == a0) = true := beq_iff_eq.mpr c38
                      have c38b1 : (t236 != a0) = false := bne_eq_false_iff_eq.mpr c38
                      clear c38
                      (first | rw [c38b0] | (simp only [i64_w, i32_w]; rw [c38b0]) | skip)
                      replace H := Option.bind_eq_some_iff.mp H
                      obtain ⟨t237, A390, H⟩ := H
                      replace H : ((bits_Gray.f t237).bind fun t238 => (cubitlaw03_BitsBack.j4 k3 a0 (t238 != a0))) = some r := H
                      have A39 := Aside0.mk A390
                      clear A390
                      replace H := Option.bind_eq_some_iff.mp H
                      obtain ⟨t238, A400, H⟩ := H
                      replace H : (cubitlaw03_BitsBack.j4 k3 a0 (t238 != a0)) = some r := H
                      have A40 := Aside0.mk A400
                      clear A400
                      have H' := Aside0.mk H
                      clear H
                      go_wp2_with (first | ((with_reducible refine gate_callee (f := 26) rfl ?_); refine goesL_ (some 138) rfl rfl Tryd.func26 (by kernel_rfl) rfl #[.int .u64 a0] rfl (by (try simp only [List.map_toArray, List.map_cons, List.map_nil]); first | done | rfl | (simp only [List.length_drop, List.length_take]; rfl)) ?_; (with_reducible refine (bits_Gray.calls a0 t235 _ A36.out).mono ?_); rintro e w' ⟨rfl, ⟨nd, rfl⟩⟩; refine ⟨_, rfl, ?_⟩) | ((with_reducible refine gate_callee (f := 25) rfl ?_); refine goesL_ (some 139) rfl rfl Tryd.func25 (by kernel_rfl) rfl #[.int .u64 t235] rfl (by (try simp only [List.map_toArray, List.map_cons, List.map_nil]); first | done | rfl | (simp only [List.length_drop, List.length_take]; rfl)) ?_; (with_reducible refine (bits_Ungray.calls k3 t235 t236 _ A37.out).mono ?_); rintro e w' ⟨rfl, ⟨nd, rfl⟩⟩; refine ⟨_, rfl, ?_⟩) | (go_at_call 25; (with_reducible refine (bits_Ungray.calls k3 a0 t237 _ A39.out).mono ?_); rintro e w' ⟨rfl, ⟨nd, rfl⟩⟩) | (go_at_call 26; (with_reducible refine (bits_Gray.calls t237 t238 _ A40.out).mono ?_); rintro e w' ⟨rfl, ⟨nd, rfl⟩⟩))
                      go_meet
                      case rel => exact ⟨_, ((t238 != a0)), (by first | rfl | (simp; done) | (simp [*]; done)), H', ⟨by have := HJ7.out; have := HJ20.out; have := HK3.out; first | omega | exact Nat.le_refl _⟩, ⟨by repeat (first | (with_reducible first | exact HB.out | apply below_alloc | apply pw_below_drewN | apply below_drew1) | exact HB.out)⟩⟩
                    · rw [if_neg c38] at H
                      have c38b0 : (t236 == a0) = false := beq_eq_false_iff_ne.mpr c38
                      have c38b1 : (t236 != a0) = true := bne_iff_ne.mpr c38
                      (first | rw [c38b0] | (simp only [i64_w, i32_w]; rw [c38b0]) | skip)
                      have H' := Aside0.mk H
                      clear H
                      go_wp2_with (first | ((with_reducible refine gate_callee (f := 26) rfl ?_); refine goesL_ (some 138) rfl rfl Tryd.func26 (by kernel_rfl) rfl #[.int .u64 a0] rfl (by (try simp only [List.map_toArray, List.map_cons, List.map_nil]); first | done | rfl | (simp only [List.length_drop, List.length_take]; rfl)) ?_; (with_reducible refine (bits_Gray.calls a0 t235 _ A36.out).mono ?_); rintro e w' ⟨rfl, ⟨nd, rfl⟩⟩; refine ⟨_, rfl, ?_⟩) | ((with_reducible refine gate_callee (f := 25) rfl ?_); refine goesL_ (some 139) rfl rfl Tryd.func25 (by kernel_rfl) rfl #[.int .u64 t235] rfl (by (try simp only [List.map_toArray, List.map_cons, List.map_nil]); first | done | rfl | (simp only [List.length_drop, List.length_take]; rfl)) ?_; (with_reducible refine (bits_Ungray.calls k3 t235 t236 _ A37.out).mono ?_); rintro e w' ⟨rfl, ⟨nd, rfl⟩⟩; refine ⟨_, rfl, ?_⟩))
                      go_meet
                      case rel => exact ⟨_, (true), (by first | rfl | (simp; done) | (simp [*]; done)), H', ⟨by have := HJ7.out; have := HJ20.out; have := HK3.out; first | omega | exact Nat.le_refl _⟩, ⟨by repeat (first | (with_reducible first | exact HB.out | apply below_alloc | apply pw_below_drewN | apply below_drew1) | exact HB.out)⟩⟩
                  case rest =>
                    clear HC35
                    try clear c1
                    try clear c2
                    try clear p2
                    try clear c3
                    try clear c6
                    try clear p6
                    try clear c7
                    try clear c9
                    try clear c10
                    try clear c10b0
                    try clear c10b1
                    try clear c11
                    try clear c13
                    try clear c13b0
                    try clear c13b1
                    try clear c14
                    try clear c16
                    try clear c16b0
                    try clear c16b1
                    try clear c18
                    try clear c18b0
                    try clear c18b1
                    try clear c19
                    try clear c19b0
                    try clear c19b1
                    try clear c22
                    try clear c22b0
                    try clear c22b1
                    try clear c23
                    try clear c24
                    try clear c24b0
                    try clear c24b1
                    try clear c25
                    try clear c25b0
                    try clear c25b1
                    try clear c26
                    try clear c26b0
                    try clear c27
                    try clear c27b0
                    try clear c28
                    try clear c28b0
                    try clear c30
                    try clear c30b0
                    try clear c30b1
                    try clear c32
                    try clear c32b0
                    try clear c32b1
                    try clear c33
                    try clear c33b0
                    try clear c33b1
                    try clear c34
                    try clear c34b0
                    try clear c34b1
                    try clear c38
                    try clear c38b0
                    try clear c38b1
                    try clear p2
                    obtain ⟨kq, x148_34, rfl, HA, HJ34, HB⟩ := hcut
                    cases kq with
                    | zero => exact absurd HA.out (by simp [cubitlaw03_BitsBack.j4])
                    | succ kj34 =>
                      have H := HA.out
                      clear HA
                      simp only [cubitlaw03_BitsBack.j4] at H
                      by_cases c41 : x148_34 = true
                      · subst c41
                        have H1 : (some false) = some r := by rw [if_pos rfl] at H; exact H
                        clear H
                        have H := H1
                        clear H1
                        exact absurd (HTRUE.out.symm.trans (Option.some.inj H).symm) (by decide)
                      · replace c41 := Bool.eq_false_iff.mpr c41
                        subst c41
                        have H1 : (if a0 = 18446744073709551615 then (some true) else ((bits_Gray.f a0).bind fun t239 => ((bits_Gray.f (IntKind.u64.wrap (a0 + 1))).bind fun t240 => ((bits_Count.f (Go.bits .xor .u64 t239 t240)).bind fun t241 => (some (t241 == 1)))))) = some r := by rw [if_neg (show ¬ (false = true) by decide)] at H; exact H
                        clear H
                        have H := H1
                        clear H1
                        by_cases c42 : a0 = 18446744073709551615
                        · rw [if_pos c42] at H
                          have c42b0 : (a0 == 18446744073709551615) = true := beq_iff_eq.mpr c42
                          have c42b1 : (a0 != 18446744073709551615) = false := bne_eq_false_iff_eq.mpr c42
                          clear c42
                          obtain rfl := Option.some.inj H
                          go_wp2
                          go_ret
                          exact ⟨by first | rfl | (simp [errW_none, errW_some] <;> rfl) | (simp [*, errW_none, errW_some] <;> rfl), by repeat (first | (with_reducible first | exact HB.out | apply below_alloc | apply pw_below_drewN | apply below_drew1) | exact HB.out)⟩
                        · rw [if_neg c42] at H
                          have c42b0 : (a0 == 18446744073709551615) = false := beq_eq_false_iff_ne.mpr c42
                          have c42b1 : (a0 != 18446744073709551615) = true := bne_iff_ne.mpr c42
                          replace H := Option.bind_eq_some_iff.mp H
                          obtain ⟨t239, A430, H⟩ := H
                          replace H : ((bits_Gray.f (IntKind.u64.wrap (a0 + 1))).bind fun t240 => ((bits_Count.f (Go.bits .xor .u64 t239 t240)).bind fun t241 => (some (t241 == 1)))) = some r := H
                          have A43 := Aside0.mk A430
                          clear A430
                          replace H := Option.bind_eq_some_iff.mp H
                          obtain ⟨t240, A440, H⟩ := H
                          replace H : ((bits_Count.f (Go.bits .xor .u64 t239 t240)).bind fun t241 => (some (t241 == 1))) = some r := H
                          have A44 := Aside0.mk A440
                          clear A440
                          replace H := Option.bind_eq_some_iff.mp H
                          obtain ⟨t241, A450, H⟩ := H
                          replace H : (some (t241 == 1)) = some r := H
                          have A45 := Aside0.mk A450
                          clear A450
                          obtain rfl := Option.some.inj H
                          go_wp2_with (first | (go_at_call 26; (with_reducible refine (bits_Gray.calls a0 t239 _ A43.out).mono ?_); rintro e w' ⟨rfl, ⟨nd, rfl⟩⟩) | (go_at_call 26; (with_reducible refine (bits_Gray.calls (IntKind.u64.wrap (a0 + 1)) t240 _ A44.out).mono ?_); rintro e w' ⟨rfl, ⟨nd, rfl⟩⟩) | (go_at_call 15; (with_reducible refine (bits_Count.calls (Go.bits .xor .u64 t239 t240) t241 _ A45.out).mono ?_); rintro e w' ⟨rfl, ⟨nd, rfl⟩⟩))
                          go_ret
                          exact ⟨by first | rfl | (simp [errW_none, errW_some] <;> rfl) | (simp [*, errW_none, errW_some] <;> rfl), by repeat (first | (with_reducible first | exact HB.out | apply below_alloc | apply pw_below_drewN | apply below_drew1) | exact HB.out)⟩
  · replace c6 := Bool.eq_false_iff.mpr c6
    subst c6
    have H1 : (some false) = some r := by rw [if_neg (show ¬ (false = true) by decide)] at H; exact H
    clear H
    have H := H1
    clear H1
    exact absurd (HTRUE.out.symm.trans (Option.some.inj H).symm) (by decide)

/-- THE ONE PURE STATEMENT of cubitlaw03_BitsBack: yours. -/
def cubitlaw03_BitsBack.Pure : Prop := ∀ (a0 : Int) (a1 : Int) (l2 : List Int) (a3 : Int), (Lit.int .u64 a0).wf = true → (Lit.int .u64 a1).wf = true → l2.length ≤ maxLen → l2.length * 8 ≤ 140737488351232 → (∀ x ∈ l2, (Lit.int .i64 x).wf = true) → (Lit.int .i64 a3).wf = true → ∃ k, cubitlaw03_BitsBack.f k a0 a1 l2 a3 = some true
theorem cubitlaw03_BitsBack.walk (P : cubitlaw03_BitsBack.Pure) (a0 : Int) (a1 : Int) (a2 : Option Addr) (len2 cap2 : Nat) (z2 : List Int) (a3 : Int) (w : World) (w0 : (Lit.int .u64 a0).wf = true) (w1 : (Lit.int .u64 a1).wf = true) (w2 : (a2 = none ∧ len2 = 0 ∧ cap2 = 0 ∧ z2 = []) ∨ ∃ x, a2 = some x ∧ len2 ≤ cap2 ∧ cap2 ≤ maxLen ∧ z2.length = cap2 ∧ (∀ i, i < z2.length → w.cell? (x.add i) = some (.int .i64 (z2.getD i 0))) ∧ ∀ n ∈ z2, (Lit.int .i64 n).wf = true) (y2 : len2 * 8 ≤ 140737488351232) (w3 : (Lit.int .i64 a3).wf = true) :
    Calls Tryd.prog 7 #[.int .u64 a0, .int .u64 a1, .slice a2 len2 cap2, .int .i64 a3] w fun e w' => e = .returned (.bool true) ∧ Below w.heap.size w w' := by
  obtain ⟨l2, rfl, hr2, hm2, hw2, hc2⟩ := ReadsInt.ofRowC w2
  obtain ⟨k, h⟩ := P a0 a1 l2 a3 w0 w1 hm2 y2 hw2 w3
  refine (cubitlaw03_BitsBack.calls k a0 a1 _ _ l2 a3 true w (Kd.C_of_reads (d := (0 : Int)) (h1 := fun _ => rfl) hr2) hc2 h rfl).mono ?_
  rintro e w' ⟨rfl, hd⟩
  exact ⟨rfl, hd⟩

end Go.Proofs.YtoebcbhadcpcoaaDoor.PA
