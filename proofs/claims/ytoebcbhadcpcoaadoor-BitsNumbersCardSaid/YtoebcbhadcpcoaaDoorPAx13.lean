/- Printed for this claim by a program of the session: contracts of Go functions: a call answers what its Lean function tells, wherever that tells something. -/
import Derived.Test.YtoebcbhadcpcoaaDoorPAx0
import Derived.Test.YtoebcbhadcpcoaaDoorPAx1
import Derived.Test.YtoebcbhadcpcoaaDoorPAx2
import Derived.Test.YtoebcbhadcpcoaaDoorGTzAll
import Derived.Test.YtoebcbhadcpcoaaDoorPAx9
import Derived.Test.YtoebcbhadcpcoaaDoorPAx11
import Derived.Test.YtoebcbhadcpcoaaDoorPAx12
namespace Go.Proofs.YtoebcbhadcpcoaaDoor.PA
open Go.RowKit Go.Proofs.YtoebcbhadcpcoaaDoorW.PrintWords Go.Proofs.YtoebcbhadcpcoaaDoorW.PrintLast Go.Proofs.YtoebcbhadcpcoaaDoorW.PrintMore
attribute [local go_sem] max2_int min2_int max_two min_two max_three min_three max_four min_four   -- for this text's walks alone
set_option linter.unusedVariables false
set_option linter.unusedSimpArgs false

/-! ### cubitlaw03_BitsNumbers: function 8 -/
def cubitlaw03_BitsNumbers.j0 : Nat → Int → Int → Int → Int → Bool → Option (Bool)
  | 0, _, _, _, _, _ => none
  | k + 1, x0, x1, x2, x3, x57 => if x57 = true then (some false) else ((cubitref03_Close.f k x0 x1).bind fun bt278 => ((bits_Close.f x0 x1).bind fun bt281 => ((cubitref03_Swap.f k x0 x1 x2).bind fun bt284 => ((bits_Swap.f k x0 x1 x2).bind fun bt286 => ((cubitref03_Open.f k x0 x1 x3).bind fun bt288 => ((bits_Open.f k x0 x1 x3).bind fun bt290 => (if bt281.1 = bt278.1 then (if bt281.2.1 = bt278.2.1 then (if bt281.2.2 = bt278.2.2 then (if bt286.1 = bt284.1 then (if bt286.2 = bt284.2 then (if bt290.1 = bt288.1 then (some (bt290.2 == bt288.2)) else (some false)) else (some false)) else (some false)) else (some false)) else (some false)) else (some false))))))))
def cubitlaw03_BitsNumbers.f (k : Nat) (a0 : Int) (a1 : Int) (a2 : Int) (a3 : Int) : Option (Bool) := (cubitlaw03_awake.f k).bind fun t267 => (if t267 = true then ((bits_Count.f a0).bind fun t268 => ((cubitref03_Count.f k a0).bind fun t269 => (if t268 = t269 then ((bits_Parity.f a0).bind fun t270 => ((cubitref03_Parity.f k a0).bind fun t271 => (if t270 = t271 then ((lowAll.f a0).bind fun t272 => ((cubitref03_Low.f k a0).bind fun t273 => (if t272 = t273 then ((bits_Gray.f a0).bind fun t274 => ((cubitref03_Gray.f k a0).bind fun t275 => (if t274 = t275 then ((bits_Ungray.f k a0).bind fun t276 => ((cubitref03_Ungray.f k a0).bind fun t277 => (cubitlaw03_BitsNumbers.j0 k a0 a1 a2 a3 (t276 != t277)))) else (cubitlaw03_BitsNumbers.j0 k a0 a1 a2 a3 true)))) else (cubitlaw03_BitsNumbers.j0 k a0 a1 a2 a3 true)))) else (cubitlaw03_BitsNumbers.j0 k a0 a1 a2 a3 true)))) else (cubitlaw03_BitsNumbers.j0 k a0 a1 a2 a3 true)))) else (some false))
theorem cubitlaw03_BitsNumbers.mono_l : ∀ k, (∀ y0 y1 y2 y3 y4, LeO (cubitlaw03_BitsNumbers.j0 k y0 y1 y2 y3 y4) (cubitlaw03_BitsNumbers.j0 (k + 1) y0 y1 y2 y3 y4))
  | 0 => fun _ _ _ _ _ r h => by simp [cubitlaw03_BitsNumbers.j0] at h
  | k + 1 => by
    have ih0 := cubitlaw03_BitsNumbers.mono_l k
    · intro y0 y1 y2 y3 y4
      unfold cubitlaw03_BitsNumbers.j0
      repeat' first
      | (with_reducible exact ih0 _ _ _ _ _)
      | (with_reducible exact bits_Open.mono _ _ _ _)
      | (with_reducible exact bits_Swap.mono _ _ _ _)
      | (with_reducible exact bits_Ungray.mono _ _)
      | (with_reducible exact cubitlaw03_awake.mono _)
      | (with_reducible exact cubitref03_Close.mono _ _ _)
      | (with_reducible exact cubitref03_Count.mono _ _)
      | (with_reducible exact cubitref03_Gray.mono _ _)
      | (with_reducible exact cubitref03_Low.mono _ _)
      | (with_reducible exact cubitref03_Open.mono _ _ _ _)
      | (with_reducible exact cubitref03_Parity.mono _ _)
      | (with_reducible exact cubitref03_Swap.mono _ _ _ _)
      | (with_reducible exact cubitref03_Ungray.mono _ _)
      | (with_reducible exact LeO.refl _)
      | (with_reducible exact LeO.none _)
      | (with_reducible refine LeO.ite ?_ ?_)
      | (with_reducible refine LeO.bind ?_ (fun _ => ?_))
      | exact ih0 _ _ _ _ _
      | exact bits_Open.mono _ _ _ _
      | exact bits_Swap.mono _ _ _ _
      | exact bits_Ungray.mono _ _
      | exact cubitlaw03_awake.mono _
      | exact cubitref03_Close.mono _ _ _
      | exact cubitref03_Count.mono _ _
      | exact cubitref03_Gray.mono _ _
      | exact cubitref03_Low.mono _ _
      | exact cubitref03_Open.mono _ _ _ _
      | exact cubitref03_Parity.mono _ _
      | exact cubitref03_Swap.mono _ _ _ _
      | exact cubitref03_Ungray.mono _ _
      | exact LeO.none _
      | refine LeO.ite ?_ ?_
      | refine LeO.bind ?_ (fun _ => ?_)
theorem cubitlaw03_BitsNumbers.mono : ∀ a0 a1 a2 a3 k, LeO (cubitlaw03_BitsNumbers.f k a0 a1 a2 a3) (cubitlaw03_BitsNumbers.f (k + 1) a0 a1 a2 a3) := by
  intro a0 a1 a2 a3 k
  have ih0 := cubitlaw03_BitsNumbers.mono_l k
  unfold cubitlaw03_BitsNumbers.f
  repeat' first
      | (with_reducible exact ih0 _ _ _ _ _)
      | (with_reducible exact bits_Open.mono _ _ _ _)
      | (with_reducible exact bits_Swap.mono _ _ _ _)
      | (with_reducible exact bits_Ungray.mono _ _)
      | (with_reducible exact cubitlaw03_awake.mono _)
      | (with_reducible exact cubitref03_Close.mono _ _ _)
      | (with_reducible exact cubitref03_Count.mono _ _)
      | (with_reducible exact cubitref03_Gray.mono _ _)
      | (with_reducible exact cubitref03_Low.mono _ _)
      | (with_reducible exact cubitref03_Open.mono _ _ _ _)
      | (with_reducible exact cubitref03_Parity.mono _ _)
      | (with_reducible exact cubitref03_Swap.mono _ _ _ _)
      | (with_reducible exact cubitref03_Ungray.mono _ _)
      | (with_reducible exact LeO.refl _)
      | (with_reducible exact LeO.none _)
      | (with_reducible refine LeO.ite ?_ ?_)
      | (with_reducible refine LeO.bind ?_ (fun _ => ?_))
      | exact ih0 _ _ _ _ _
      | exact bits_Open.mono _ _ _ _
      | exact bits_Swap.mono _ _ _ _
      | exact bits_Ungray.mono _ _
      | exact cubitlaw03_awake.mono _
      | exact cubitref03_Close.mono _ _ _
      | exact cubitref03_Count.mono _ _
      | exact cubitref03_Gray.mono _ _
      | exact cubitref03_Low.mono _ _
      | exact cubitref03_Open.mono _ _ _ _
      | exact cubitref03_Parity.mono _ _
      | exact cubitref03_Swap.mono _ _ _ _
      | exact cubitref03_Ungray.mono _ _
      | exact LeO.none _
      | refine LeO.ite ?_ ?_
      | refine LeO.bind ?_ (fun _ => ?_)
set_option maxHeartbeats 8000000 in
set_option maxRecDepth 100000 in
theorem cubitlaw03_BitsNumbers.calls (k : Nat) (a0 : Int) (a1 : Int) (a2 : Int) (a3 : Int) (r : Bool) (w : World) (T : Tab w) (h : cubitlaw03_BitsNumbers.f k a0 a1 a2 a3 = some r) (htrue : r = true) :
    Calls Tryd.prog 8 #[.int .u64 a0, .int .i64 a1, .int .i64 a2, .int .i64 a3] w fun e w' => e = .returned (.bool r) ∧ Below w.heap.size w w' := by
  have HB := Aside0.mk (Below.refl w.heap.size w)
  have HTRUE := Aside0.mk htrue
  clear htrue
  have H : ((cubitlaw03_awake.f k).bind fun t267 => (if t267 = true then ((bits_Count.f a0).bind fun t268 => ((cubitref03_Count.f k a0).bind fun t269 => (if t268 = t269 then ((bits_Parity.f a0).bind fun t270 => ((cubitref03_Parity.f k a0).bind fun t271 => (if t270 = t271 then ((lowAll.f a0).bind fun t272 => ((cubitref03_Low.f k a0).bind fun t273 => (if t272 = t273 then ((bits_Gray.f a0).bind fun t274 => ((cubitref03_Gray.f k a0).bind fun t275 => (if t274 = t275 then ((bits_Ungray.f k a0).bind fun t276 => ((cubitref03_Ungray.f k a0).bind fun t277 => (cubitlaw03_BitsNumbers.j0 k a0 a1 a2 a3 (t276 != t277)))) else (cubitlaw03_BitsNumbers.j0 k a0 a1 a2 a3 true)))) else (cubitlaw03_BitsNumbers.j0 k a0 a1 a2 a3 true)))) else (cubitlaw03_BitsNumbers.j0 k a0 a1 a2 a3 true)))) else (cubitlaw03_BitsNumbers.j0 k a0 a1 a2 a3 true)))) else (some false))) = some r := h
  clear h
  replace H := Option.bind_eq_some_iff.mp H
  obtain ⟨t267, A50, H⟩ := H
  replace H : (if t267 = true then ((bits_Count.f a0).bind fun t268 => ((cubitref03_Count.f k a0).bind fun t269 => (if t268 = t269 then ((bits_Parity.f a0).bind fun t270 => ((cubitref03_Parity.f k a0).bind fun t271 => (if t270 = t271 then ((lowAll.f a0).bind fun t272 => ((cubitref03_Low.f k a0).bind fun t273 => (if t272 = t273 then ((bits_Gray.f a0).bind fun t274 => ((cubitref03_Gray.f k a0).bind fun t275 => (if t274 = t275 then ((bits_Ungray.f k a0).bind fun t276 => ((cubitref03_Ungray.f k a0).bind fun t277 => (cubitlaw03_BitsNumbers.j0 k a0 a1 a2 a3 (t276 != t277)))) else (cubitlaw03_BitsNumbers.j0 k a0 a1 a2 a3 true)))) else (cubitlaw03_BitsNumbers.j0 k a0 a1 a2 a3 true)))) else (cubitlaw03_BitsNumbers.j0 k a0 a1 a2 a3 true)))) else (cubitlaw03_BitsNumbers.j0 k a0 a1 a2 a3 true)))) else (some false)) = some r := H
  have A5 := Aside0.mk A50
  clear A50
  by_cases c6 : t267 = true
  · subst c6
    have H1 : ((bits_Count.f a0).bind fun t268 => ((cubitref03_Count.f k a0).bind fun t269 => (if t268 = t269 then ((bits_Parity.f a0).bind fun t270 => ((cubitref03_Parity.f k a0).bind fun t271 => (if t270 = t271 then ((lowAll.f a0).bind fun t272 => ((cubitref03_Low.f k a0).bind fun t273 => (if t272 = t273 then ((bits_Gray.f a0).bind fun t274 => ((cubitref03_Gray.f k a0).bind fun t275 => (if t274 = t275 then ((bits_Ungray.f k a0).bind fun t276 => ((cubitref03_Ungray.f k a0).bind fun t277 => (cubitlaw03_BitsNumbers.j0 k a0 a1 a2 a3 (t276 != t277)))) else (cubitlaw03_BitsNumbers.j0 k a0 a1 a2 a3 true)))) else (cubitlaw03_BitsNumbers.j0 k a0 a1 a2 a3 true)))) else (cubitlaw03_BitsNumbers.j0 k a0 a1 a2 a3 true)))) else (cubitlaw03_BitsNumbers.j0 k a0 a1 a2 a3 true)))) = some r := by rw [if_pos rfl] at H; exact H
    clear H
    have H := H1
    clear H1
    have HC7 := Aside0.mk H
    clear H
    go_enter Tryd.func8, Tryd.ntmps8
    go_upto_region 3 with (first | ((with_reducible refine gate_callee (f := 9) rfl ?_); refine goesL_ (some 23) rfl rfl Tryd.func9 (by kernel_rfl) rfl #[] rfl (by (try simp only [List.map_toArray, List.map_cons, List.map_nil]); first | done | rfl | (simp only [List.length_drop, List.length_take]; rfl)) ?_; (with_reducible refine (cubitlaw03_awake.calls k  true _ A5.out).mono ?_); rintro e w8 ⟨rfl, hb⟩; refine ⟨_, rfl, ?_⟩; have n0_ := Aside0.mk (below_step (by repeat (first | (with_reducible first | exact HB.out | apply below_alloc | apply pw_below_drewN | apply below_drew1) | exact HB.out)) hb); clear HB; have HB := n0_; clear n0_; (try clear hb); (try clear hb2); (try clear hk); (try clear hi)))
    (try simp only [Act.put, List.setIfInBounds_toArray, List.set_cons_zero, List.set_cons_succ])
    go_cut [57] (fun v57 wc => ∃ (kq : Nat) (x57_6 : Bool), v57 = .bool x57_6 ∧ Aside0 (cubitlaw03_BitsNumbers.j0 kq a0 a1 a2 a3 x57_6 = some r) ∧ Aside0 (kq ≤ k) ∧ Aside0 (Below w.heap.size w wc))
    case first =>
      have H := HC7.out
      clear HC7
      replace H := Option.bind_eq_some_iff.mp H
      obtain ⟨t268, A90, H⟩ := H
      replace H : ((cubitref03_Count.f k a0).bind fun t269 => (if t268 = t269 then ((bits_Parity.f a0).bind fun t270 => ((cubitref03_Parity.f k a0).bind fun t271 => (if t270 = t271 then ((lowAll.f a0).bind fun t272 => ((cubitref03_Low.f k a0).bind fun t273 => (if t272 = t273 then ((bits_Gray.f a0).bind fun t274 => ((cubitref03_Gray.f k a0).bind fun t275 => (if t274 = t275 then ((bits_Ungray.f k a0).bind fun t276 => ((cubitref03_Ungray.f k a0).bind fun t277 => (cubitlaw03_BitsNumbers.j0 k a0 a1 a2 a3 (t276 != t277)))) else (cubitlaw03_BitsNumbers.j0 k a0 a1 a2 a3 true)))) else (cubitlaw03_BitsNumbers.j0 k a0 a1 a2 a3 true)))) else (cubitlaw03_BitsNumbers.j0 k a0 a1 a2 a3 true)))) else (cubitlaw03_BitsNumbers.j0 k a0 a1 a2 a3 true))) = some r := H
      have A9 := Aside0.mk A90
      clear A90
      replace H := Option.bind_eq_some_iff.mp H
      obtain ⟨t269, A100, H⟩ := H
      replace H : (if t268 = t269 then ((bits_Parity.f a0).bind fun t270 => ((cubitref03_Parity.f k a0).bind fun t271 => (if t270 = t271 then ((lowAll.f a0).bind fun t272 => ((cubitref03_Low.f k a0).bind fun t273 => (if t272 = t273 then ((bits_Gray.f a0).bind fun t274 => ((cubitref03_Gray.f k a0).bind fun t275 => (if t274 = t275 then ((bits_Ungray.f k a0).bind fun t276 => ((cubitref03_Ungray.f k a0).bind fun t277 => (cubitlaw03_BitsNumbers.j0 k a0 a1 a2 a3 (t276 != t277)))) else (cubitlaw03_BitsNumbers.j0 k a0 a1 a2 a3 true)))) else (cubitlaw03_BitsNumbers.j0 k a0 a1 a2 a3 true)))) else (cubitlaw03_BitsNumbers.j0 k a0 a1 a2 a3 true)))) else (cubitlaw03_BitsNumbers.j0 k a0 a1 a2 a3 true)) = some r := H
      have A10 := Aside0.mk A100
      clear A100
      by_cases c11 : t268 = t269
      · rw [if_pos c11] at H
        have c11b0 : (t268 == t269) = true := beq_iff_eq.mpr c11
        have c11b1 : (t268 != t269) = false := bne_eq_false_iff_eq.mpr c11
        clear c11
        (first | rw [c11b0] | (simp only [i64_w, i32_w]; rw [c11b0]) | skip)
        replace H := Option.bind_eq_some_iff.mp H
        obtain ⟨t270, A120, H⟩ := H
        replace H : ((cubitref03_Parity.f k a0).bind fun t271 => (if t270 = t271 then ((lowAll.f a0).bind fun t272 => ((cubitref03_Low.f k a0).bind fun t273 => (if t272 = t273 then ((bits_Gray.f a0).bind fun t274 => ((cubitref03_Gray.f k a0).bind fun t275 => (if t274 = t275 then ((bits_Ungray.f k a0).bind fun t276 => ((cubitref03_Ungray.f k a0).bind fun t277 => (cubitlaw03_BitsNumbers.j0 k a0 a1 a2 a3 (t276 != t277)))) else (cubitlaw03_BitsNumbers.j0 k a0 a1 a2 a3 true)))) else (cubitlaw03_BitsNumbers.j0 k a0 a1 a2 a3 true)))) else (cubitlaw03_BitsNumbers.j0 k a0 a1 a2 a3 true))) = some r := H
        have A12 := Aside0.mk A120
        clear A120
        replace H := Option.bind_eq_some_iff.mp H
        obtain ⟨t271, A130, H⟩ := H
        replace H : (if t270 = t271 then ((lowAll.f a0).bind fun t272 => ((cubitref03_Low.f k a0).bind fun t273 => (if t272 = t273 then ((bits_Gray.f a0).bind fun t274 => ((cubitref03_Gray.f k a0).bind fun t275 => (if t274 = t275 then ((bits_Ungray.f k a0).bind fun t276 => ((cubitref03_Ungray.f k a0).bind fun t277 => (cubitlaw03_BitsNumbers.j0 k a0 a1 a2 a3 (t276 != t277)))) else (cubitlaw03_BitsNumbers.j0 k a0 a1 a2 a3 true)))) else (cubitlaw03_BitsNumbers.j0 k a0 a1 a2 a3 true)))) else (cubitlaw03_BitsNumbers.j0 k a0 a1 a2 a3 true)) = some r := H
        have A13 := Aside0.mk A130
        clear A130
        by_cases c14 : t270 = t271
        · rw [if_pos c14] at H
          have c14b0 : (t270 == t271) = true := beq_iff_eq.mpr c14
          have c14b1 : (t270 != t271) = false := bne_eq_false_iff_eq.mpr c14
          clear c14
          replace H := Option.bind_eq_some_iff.mp H
          obtain ⟨t272, A150, H⟩ := H
          replace H : ((cubitref03_Low.f k a0).bind fun t273 => (if t272 = t273 then ((bits_Gray.f a0).bind fun t274 => ((cubitref03_Gray.f k a0).bind fun t275 => (if t274 = t275 then ((bits_Ungray.f k a0).bind fun t276 => ((cubitref03_Ungray.f k a0).bind fun t277 => (cubitlaw03_BitsNumbers.j0 k a0 a1 a2 a3 (t276 != t277)))) else (cubitlaw03_BitsNumbers.j0 k a0 a1 a2 a3 true)))) else (cubitlaw03_BitsNumbers.j0 k a0 a1 a2 a3 true))) = some r := H
          have A15 := Aside0.mk A150
          clear A150
          replace H := Option.bind_eq_some_iff.mp H
          obtain ⟨t273, A160, H⟩ := H
          replace H : (if t272 = t273 then ((bits_Gray.f a0).bind fun t274 => ((cubitref03_Gray.f k a0).bind fun t275 => (if t274 = t275 then ((bits_Ungray.f k a0).bind fun t276 => ((cubitref03_Ungray.f k a0).bind fun t277 => (cubitlaw03_BitsNumbers.j0 k a0 a1 a2 a3 (t276 != t277)))) else (cubitlaw03_BitsNumbers.j0 k a0 a1 a2 a3 true)))) else (cubitlaw03_BitsNumbers.j0 k a0 a1 a2 a3 true)) = some r := H
          have A16 := Aside0.mk A160
          clear A160
          by_cases c17 : t272 = t273
          · rw [if_pos c17] at H
            have c17b0 : (t272 == t273) = true := beq_iff_eq.mpr c17
            have c17b1 : (t272 != t273) = false := bne_eq_false_iff_eq.mpr c17
            clear c17
            replace H := Option.bind_eq_some_iff.mp H
            obtain ⟨t274, A180, H⟩ := H
            replace H : ((cubitref03_Gray.f k a0).bind fun t275 => (if t274 = t275 then ((bits_Ungray.f k a0).bind fun t276 => ((cubitref03_Ungray.f k a0).bind fun t277 => (cubitlaw03_BitsNumbers.j0 k a0 a1 a2 a3 (t276 != t277)))) else (cubitlaw03_BitsNumbers.j0 k a0 a1 a2 a3 true))) = some r := H
            have A18 := Aside0.mk A180
            clear A180
            replace H := Option.bind_eq_some_iff.mp H
            obtain ⟨t275, A190, H⟩ := H
            replace H : (if t274 = t275 then ((bits_Ungray.f k a0).bind fun t276 => ((cubitref03_Ungray.f k a0).bind fun t277 => (cubitlaw03_BitsNumbers.j0 k a0 a1 a2 a3 (t276 != t277)))) else (cubitlaw03_BitsNumbers.j0 k a0 a1 a2 a3 true)) = some r := H
            have A19 := Aside0.mk A190
            clear A190
            by_cases c20 : t274 = t275
            · rw [if_pos c20] at H
              have c20b0 : (t274 == t275) = true := beq_iff_eq.mpr c20
              have c20b1 : (t274 != t275) = false := bne_eq_false_iff_eq.mpr c20
              clear c20
              replace H := Option.bind_eq_some_iff.mp H
              obtain ⟨t276, A210, H⟩ := H
              replace H : ((cubitref03_Ungray.f k a0).bind fun t277 => (cubitlaw03_BitsNumbers.j0 k a0 a1 a2 a3 (t276 != t277))) = some r := H
              have A21 := Aside0.mk A210
              clear A210
              replace H := Option.bind_eq_some_iff.mp H
              obtain ⟨t277, A220, H⟩ := H
              replace H : (cubitlaw03_BitsNumbers.j0 k a0 a1 a2 a3 (t276 != t277)) = some r := H
              have A22 := Aside0.mk A220
              clear A220
              have H' := Aside0.mk H
              clear H
              go_wp2_with (first | ((with_reducible refine gate_callee (f := 15) rfl ?_); refine goesL_ (some 26) rfl rfl Tryd.func15 (by kernel_rfl) rfl #[.int .u64 a0] rfl (by (try simp only [List.map_toArray, List.map_cons, List.map_nil]); first | done | rfl | (simp only [List.length_drop, List.length_take]; rfl)) ?_; (with_reducible refine (bits_Count.calls a0 t268 _ A9.out).mono ?_); rintro e w' ⟨rfl, ⟨nd, rfl⟩⟩; refine ⟨_, rfl, ?_⟩) | ((with_reducible refine gate_callee (f := 27) rfl ?_); refine goesL_ (some 28) rfl rfl Tryd.func27 (by kernel_rfl) rfl #[.int .u64 a0] rfl (by (try simp only [List.map_toArray, List.map_cons, List.map_nil]); first | done | rfl | (simp only [List.length_drop, List.length_take]; rfl)) ?_; (with_reducible refine (cubitref03_Count.calls k a0 t269 _ A10.out).mono ?_); rintro e w' ⟨rfl, ⟨nd, rfl⟩⟩; refine ⟨_, rfl, ?_⟩) | (go_at_call 28; (with_reducible refine (bits_Parity.calls a0 t270 _ A12.out).mono ?_); rintro e w' ⟨rfl, ⟨nd, rfl⟩⟩) | (go_at_call 29; (with_reducible refine (cubitref03_Parity.calls k a0 t271 _ A13.out).mono ?_); rintro e w' ⟨rfl, ⟨nd, rfl⟩⟩) | (go_at_call 30; (with_reducible refine (lowAll.calls a0 t272 _ ?sideT A15.out).mono ?_); (case sideT => exact Tab.below T (by repeat (first | (with_reducible first | exact HB.out | apply below_alloc | apply pw_below_drewN | apply below_drew1) | exact HB.out)) T.pos); rintro e w' ⟨rfl, ⟨nd, rfl⟩⟩) | (go_at_call 31; (with_reducible refine (cubitref03_Low.calls k a0 t273 _ A16.out).mono ?_); rintro e w' ⟨rfl, ⟨nd, rfl⟩⟩) | (go_at_call 26; (with_reducible refine (bits_Gray.calls a0 t274 _ A18.out).mono ?_); rintro e w' ⟨rfl, ⟨nd, rfl⟩⟩) | (go_at_call 32; (with_reducible refine (cubitref03_Gray.calls k a0 t275 _ A19.out).mono ?_); rintro e w' ⟨rfl, ⟨nd, rfl⟩⟩) | (go_at_call 25; (with_reducible refine (bits_Ungray.calls k a0 t276 _ A21.out).mono ?_); rintro e w' ⟨rfl, ⟨nd, rfl⟩⟩) | (go_at_call 33; (with_reducible refine (cubitref03_Ungray.calls k a0 t277 _ A22.out).mono ?_); rintro e w' ⟨rfl, ⟨nd, rfl⟩⟩))
              go_meet
              case rel => exact ⟨_, ((t276 != t277)), (by first | rfl | (simp; done) | (simp [*]; done)), H', ⟨by first | omega | exact Nat.le_refl _⟩, ⟨by repeat (first | (with_reducible first | exact HB.out | apply below_alloc | apply pw_below_drewN | apply below_drew1) | exact HB.out)⟩⟩
            · rw [if_neg c20] at H
              have c20b0 : (t274 == t275) = false := beq_eq_false_iff_ne.mpr c20
              have c20b1 : (t274 != t275) = true := bne_iff_ne.mpr c20
              have H' := Aside0.mk H
              clear H
              go_wp2_with (first | ((with_reducible refine gate_callee (f := 15) rfl ?_); refine goesL_ (some 26) rfl rfl Tryd.func15 (by kernel_rfl) rfl #[.int .u64 a0] rfl (by (try simp only [List.map_toArray, List.map_cons, List.map_nil]); first | done | rfl | (simp only [List.length_drop, List.length_take]; rfl)) ?_; (with_reducible refine (bits_Count.calls a0 t268 _ A9.out).mono ?_); rintro e w' ⟨rfl, ⟨nd, rfl⟩⟩; refine ⟨_, rfl, ?_⟩) | ((with_reducible refine gate_callee (f := 27) rfl ?_); refine goesL_ (some 28) rfl rfl Tryd.func27 (by kernel_rfl) rfl #[.int .u64 a0] rfl (by (try simp only [List.map_toArray, List.map_cons, List.map_nil]); first | done | rfl | (simp only [List.length_drop, List.length_take]; rfl)) ?_; (with_reducible refine (cubitref03_Count.calls k a0 t269 _ A10.out).mono ?_); rintro e w' ⟨rfl, ⟨nd, rfl⟩⟩; refine ⟨_, rfl, ?_⟩) | (go_at_call 28; (with_reducible refine (bits_Parity.calls a0 t270 _ A12.out).mono ?_); rintro e w' ⟨rfl, ⟨nd, rfl⟩⟩) | (go_at_call 29; (with_reducible refine (cubitref03_Parity.calls k a0 t271 _ A13.out).mono ?_); rintro e w' ⟨rfl, ⟨nd, rfl⟩⟩) | (go_at_call 30; (with_reducible refine (lowAll.calls a0 t272 _ ?sideT A15.out).mono ?_); (case sideT => exact Tab.below T (by repeat (first | (with_reducible first | exact HB.out | apply below_alloc | apply pw_below_drewN | apply below_drew1) | exact HB.out)) T.pos); rintro e w' ⟨rfl, ⟨nd, rfl⟩⟩) | (go_at_call 31; (with_reducible refine (cubitref03_Low.calls k a0 t273 _ A16.out).mono ?_); rintro e w' ⟨rfl, ⟨nd, rfl⟩⟩) | (go_at_call 26; (with_reducible refine (bits_Gray.calls a0 t274 _ A18.out).mono ?_); rintro e w' ⟨rfl, ⟨nd, rfl⟩⟩) | (go_at_call 32; (with_reducible refine (cubitref03_Gray.calls k a0 t275 _ A19.out).mono ?_); rintro e w' ⟨rfl, ⟨nd, rfl⟩⟩))
              go_meet
              case rel => exact ⟨_, (true), (by first | rfl | (simp; done) | (simp [*]; done)), H', ⟨by first | omega | exact Nat.le_refl _⟩, ⟨by repeat (first | (with_reducible first | exact HB.out | apply below_alloc | apply pw_below_drewN | apply below_drew1) | exact HB.out)⟩⟩
          · rw [if_neg c17] at H
            have c17b0 : (t272 == t273) = false := beq_eq_false_iff_ne.mpr c17
            have c17b1 : (t272 != t273) = true := bne_iff_ne.mpr c17
            have H' := Aside0.mk H
            clear H
            go_wp2_with (first | ((with_reducible refine gate_callee (f := 15) rfl ?_); refine goesL_ (some 26) rfl rfl Tryd.func15 (by kernel_rfl) rfl #[.int .u64 a0] rfl (by (try simp only [List.map_toArray, List.map_cons, List.map_nil]); first | done | rfl | (simp only [List.length_drop, List.length_take]; rfl)) ?_; (with_reducible refine (bits_Count.calls a0 t268 _ A9.out).mono ?_); rintro e w' ⟨rfl, ⟨nd, rfl⟩⟩; refine ⟨_, rfl, ?_⟩) | ((with_reducible refine gate_callee (f := 27) rfl ?_); refine goesL_ (some 28) rfl rfl Tryd.func27 (by kernel_rfl) rfl #[.int .u64 a0] rfl (by (try simp only [List.map_toArray, List.map_cons, List.map_nil]); first | done | rfl | (simp only [List.length_drop, List.length_take]; rfl)) ?_; (with_reducible refine (cubitref03_Count.calls k a0 t269 _ A10.out).mono ?_); rintro e w' ⟨rfl, ⟨nd, rfl⟩⟩; refine ⟨_, rfl, ?_⟩) | (go_at_call 28; (with_reducible refine (bits_Parity.calls a0 t270 _ A12.out).mono ?_); rintro e w' ⟨rfl, ⟨nd, rfl⟩⟩) | (go_at_call 29; (with_reducible refine (cubitref03_Parity.calls k a0 t271 _ A13.out).mono ?_); rintro e w' ⟨rfl, ⟨nd, rfl⟩⟩) | (go_at_call 30; (with_reducible refine (lowAll.calls a0 t272 _ ?sideT A15.out).mono ?_); (case sideT => exact Tab.below T (by repeat (first | (with_reducible first | exact HB.out | apply below_alloc | apply pw_below_drewN | apply below_drew1) | exact HB.out)) T.pos); rintro e w' ⟨rfl, ⟨nd, rfl⟩⟩) | (go_at_call 31; (with_reducible refine (cubitref03_Low.calls k a0 t273 _ A16.out).mono ?_); rintro e w' ⟨rfl, ⟨nd, rfl⟩⟩))
            go_meet
            case rel => exact ⟨_, (true), (by first | rfl | (simp; done) | (simp [*]; done)), H', ⟨by first | omega | exact Nat.le_refl _⟩, ⟨by repeat (first | (with_reducible first | exact HB.out | apply below_alloc | apply pw_below_drewN | apply below_drew1) | exact HB.out)⟩⟩
        · rw [if_neg c14] at H
          have c14b0 : (t270 == t271) = false := beq_eq_false_iff_ne.mpr c14
          have c14b1 : (t270 != t271) = true := bne_iff_ne.mpr c14
          have H' := Aside0.mk H
          clear H
          go_wp2_with (first | ((with_reducible refine gate_callee (f := 15) rfl ?_); refine goesL_ (some 26) rfl rfl Tryd.func15 (by kernel_rfl) rfl #[.int .u64 a0] rfl (by (try simp only [List.map_toArray, List.map_cons, List.map_nil]); first | done | rfl | (simp only [List.length_drop, List.length_take]; rfl)) ?_; (with_reducible refine (bits_Count.calls a0 t268 _ A9.out).mono ?_); rintro e w' ⟨rfl, ⟨nd, rfl⟩⟩; refine ⟨_, rfl, ?_⟩) | ((with_reducible refine gate_callee (f := 27) rfl ?_); refine goesL_ (some 28) rfl rfl Tryd.func27 (by kernel_rfl) rfl #[.int .u64 a0] rfl (by (try simp only [List.map_toArray, List.map_cons, List.map_nil]); first | done | rfl | (simp only [List.length_drop, List.length_take]; rfl)) ?_; (with_reducible refine (cubitref03_Count.calls k a0 t269 _ A10.out).mono ?_); rintro e w' ⟨rfl, ⟨nd, rfl⟩⟩; refine ⟨_, rfl, ?_⟩) | (go_at_call 28; (with_reducible refine (bits_Parity.calls a0 t270 _ A12.out).mono ?_); rintro e w' ⟨rfl, ⟨nd, rfl⟩⟩) | (go_at_call 29; (with_reducible refine (cubitref03_Parity.calls k a0 t271 _ A13.out).mono ?_); rintro e w' ⟨rfl, ⟨nd, rfl⟩⟩))
          go_meet
          case rel => exact ⟨_, (true), (by first | rfl | (simp; done) | (simp [*]; done)), H', ⟨by first | omega | exact Nat.le_refl _⟩, ⟨by repeat (first | (with_reducible first | exact HB.out | apply below_alloc | apply pw_below_drewN | apply below_drew1) | exact HB.out)⟩⟩
      · rw [if_neg c11] at H
        have c11b0 : (t268 == t269) = false := beq_eq_false_iff_ne.mpr c11
        have c11b1 : (t268 != t269) = true := bne_iff_ne.mpr c11
        (first | rw [c11b0] | (simp only [i64_w, i32_w]; rw [c11b0]) | skip)
        have H' := Aside0.mk H
        clear H
        go_wp2_with (first | ((with_reducible refine gate_callee (f := 15) rfl ?_); refine goesL_ (some 26) rfl rfl Tryd.func15 (by kernel_rfl) rfl #[.int .u64 a0] rfl (by (try simp only [List.map_toArray, List.map_cons, List.map_nil]); first | done | rfl | (simp only [List.length_drop, List.length_take]; rfl)) ?_; (with_reducible refine (bits_Count.calls a0 t268 _ A9.out).mono ?_); rintro e w' ⟨rfl, ⟨nd, rfl⟩⟩; refine ⟨_, rfl, ?_⟩) | ((with_reducible refine gate_callee (f := 27) rfl ?_); refine goesL_ (some 28) rfl rfl Tryd.func27 (by kernel_rfl) rfl #[.int .u64 a0] rfl (by (try simp only [List.map_toArray, List.map_cons, List.map_nil]); first | done | rfl | (simp only [List.length_drop, List.length_take]; rfl)) ?_; (with_reducible refine (cubitref03_Count.calls k a0 t269 _ A10.out).mono ?_); rintro e w' ⟨rfl, ⟨nd, rfl⟩⟩; refine ⟨_, rfl, ?_⟩))
        go_meet
        case rel => exact ⟨_, (true), (by first | rfl | (simp; done) | (simp [*]; done)), H', ⟨by first | omega | exact Nat.le_refl _⟩, ⟨by repeat (first | (with_reducible first | exact HB.out | apply below_alloc | apply pw_below_drewN | apply below_drew1) | exact HB.out)⟩⟩
    case rest =>
      clear HC7
      try clear c1
      try clear c2
      try clear p2
      try clear c6
      try clear c8
      try clear c9
      try clear c11
      try clear c11b0
      try clear c11b1
      try clear c14
      try clear c14b0
      try clear c14b1
      try clear c15
      try clear c17
      try clear c17b0
      try clear c17b1
      try clear c20
      try clear c20b0
      try clear c20b1
      obtain ⟨kq, x57_6, rfl, HA, HJ6, HB⟩ := hcut
      cases kq with
      | zero => exact absurd HA.out (by simp [cubitlaw03_BitsNumbers.j0])
      | succ kj6 =>
        have H := HA.out
        clear HA
        simp only [cubitlaw03_BitsNumbers.j0] at H
        by_cases c23 : x57_6 = true
        · subst c23
          have H1 : (some false) = some r := by rw [if_pos rfl] at H; exact H
          clear H
          have H := H1
          clear H1
          exact absurd (HTRUE.out.symm.trans (Option.some.inj H).symm) (by decide)
        · replace c23 := Bool.eq_false_iff.mpr c23
          subst c23
          have H1 : ((cubitref03_Close.f kj6 a0 a1).bind fun bt278 => ((bits_Close.f a0 a1).bind fun bt281 => ((cubitref03_Swap.f kj6 a0 a1 a2).bind fun bt284 => ((bits_Swap.f kj6 a0 a1 a2).bind fun bt286 => ((cubitref03_Open.f kj6 a0 a1 a3).bind fun bt288 => ((bits_Open.f kj6 a0 a1 a3).bind fun bt290 => (if bt281.1 = bt278.1 then (if bt281.2.1 = bt278.2.1 then (if bt281.2.2 = bt278.2.2 then (if bt286.1 = bt284.1 then (if bt286.2 = bt284.2 then (if bt290.1 = bt288.1 then (some (bt290.2 == bt288.2)) else (some false)) else (some false)) else (some false)) else (some false)) else (some false)) else (some false)))))))) = some r := by rw [if_neg (show ¬ (false = true) by decide)] at H; exact H
          clear H
          have H := H1
          clear H1
          replace H := Option.bind_eq_some_iff.mp H
          obtain ⟨⟨t278, t279, t280⟩, A240, H⟩ := H
          replace H : ((bits_Close.f a0 a1).bind fun bt281 => ((cubitref03_Swap.f kj6 a0 a1 a2).bind fun bt284 => ((bits_Swap.f kj6 a0 a1 a2).bind fun bt286 => ((cubitref03_Open.f kj6 a0 a1 a3).bind fun bt288 => ((bits_Open.f kj6 a0 a1 a3).bind fun bt290 => (if bt281.1 = t278 then (if bt281.2.1 = t279 then (if bt281.2.2 = t280 then (if bt286.1 = bt284.1 then (if bt286.2 = bt284.2 then (if bt290.1 = bt288.1 then (some (bt290.2 == bt288.2)) else (some false)) else (some false)) else (some false)) else (some false)) else (some false)) else (some false))))))) = some r := H
          have A24 := Aside0.mk A240
          clear A240
          replace H := Option.bind_eq_some_iff.mp H
          obtain ⟨⟨t281, t282, t283⟩, A250, H⟩ := H
          replace H : ((cubitref03_Swap.f kj6 a0 a1 a2).bind fun bt284 => ((bits_Swap.f kj6 a0 a1 a2).bind fun bt286 => ((cubitref03_Open.f kj6 a0 a1 a3).bind fun bt288 => ((bits_Open.f kj6 a0 a1 a3).bind fun bt290 => (if t281 = t278 then (if t282 = t279 then (if t283 = t280 then (if bt286.1 = bt284.1 then (if bt286.2 = bt284.2 then (if bt290.1 = bt288.1 then (some (bt290.2 == bt288.2)) else (some false)) else (some false)) else (some false)) else (some false)) else (some false)) else (some false)))))) = some r := H
          have A25 := Aside0.mk A250
          clear A250
          replace H := Option.bind_eq_some_iff.mp H
          obtain ⟨⟨t284, t285⟩, A260, H⟩ := H
          replace H : ((bits_Swap.f kj6 a0 a1 a2).bind fun bt286 => ((cubitref03_Open.f kj6 a0 a1 a3).bind fun bt288 => ((bits_Open.f kj6 a0 a1 a3).bind fun bt290 => (if t281 = t278 then (if t282 = t279 then (if t283 = t280 then (if bt286.1 = t284 then (if bt286.2 = t285 then (if bt290.1 = bt288.1 then (some (bt290.2 == bt288.2)) else (some false)) else (some false)) else (some false)) else (some false)) else (some false)) else (some false))))) = some r := H
          have A26 := Aside0.mk A260
          clear A260
          replace H := Option.bind_eq_some_iff.mp H
          obtain ⟨⟨t286, t287⟩, A270, H⟩ := H
          replace H : ((cubitref03_Open.f kj6 a0 a1 a3).bind fun bt288 => ((bits_Open.f kj6 a0 a1 a3).bind fun bt290 => (if t281 = t278 then (if t282 = t279 then (if t283 = t280 then (if t286 = t284 then (if t287 = t285 then (if bt290.1 = bt288.1 then (some (bt290.2 == bt288.2)) else (some false)) else (some false)) else (some false)) else (some false)) else (some false)) else (some false)))) = some r := H
          have A27 := Aside0.mk A270
          clear A270
          replace H := Option.bind_eq_some_iff.mp H
          obtain ⟨⟨t288, t289⟩, A280, H⟩ := H
          replace H : ((bits_Open.f kj6 a0 a1 a3).bind fun bt290 => (if t281 = t278 then (if t282 = t279 then (if t283 = t280 then (if t286 = t284 then (if t287 = t285 then (if bt290.1 = t288 then (some (bt290.2 == t289)) else (some false)) else (some false)) else (some false)) else (some false)) else (some false)) else (some false))) = some r := H
          have A28 := Aside0.mk A280
          clear A280
          replace H := Option.bind_eq_some_iff.mp H
          obtain ⟨⟨t290, t291⟩, A290, H⟩ := H
          replace H : (if t281 = t278 then (if t282 = t279 then (if t283 = t280 then (if t286 = t284 then (if t287 = t285 then (if t290 = t288 then (some (t291 == t289)) else (some false)) else (some false)) else (some false)) else (some false)) else (some false)) else (some false)) = some r := H
          have A29 := Aside0.mk A290
          clear A290
          by_cases c30 : t281 = t278
          · rw [if_pos c30] at H
            have c30b0 : (t281 == t278) = true := beq_iff_eq.mpr c30
            have c30b1 : (t281 != t278) = false := bne_eq_false_iff_eq.mpr c30
            clear c30
            by_cases c31 : t282 = t279
            · rw [if_pos c31] at H
              have c31b0 : (t282 == t279) = true := beq_iff_eq.mpr c31
              have c31b1 : (t282 != t279) = false := bne_eq_false_iff_eq.mpr c31
              clear c31
              by_cases c32 : t283 = t280
              · rw [if_pos c32] at H
                have c32b0 : (t283 == t280) = true := beq_iff_eq.mpr c32
                have c32b1 : (t283 != t280) = false := bne_eq_false_iff_eq.mpr c32
                clear c32
                by_cases c33 : t286 = t284
                · rw [if_pos c33] at H
                  have c33b0 : (t286 == t284) = true := beq_iff_eq.mpr c33
                  have c33b1 : (t286 != t284) = false := bne_eq_false_iff_eq.mpr c33
                  clear c33
                  by_cases c34 : t287 = t285
                  · rw [if_pos c34] at H
                    have c34b0 : (t287 == t285) = true := beq_iff_eq.mpr c34
                    have c34b1 : (t287 != t285) = false := bne_eq_false_iff_eq.mpr c34
                    clear c34
                    by_cases c35 : t290 = t288
                    · rw [if_pos c35] at H
                      have c35b0 : (t290 == t288) = true := beq_iff_eq.mpr c35
                      have c35b1 : (t290 != t288) = false := bne_eq_false_iff_eq.mpr c35
                      clear c35
                      obtain rfl := Option.some.inj H
                      go_wp2_with (first | ((with_reducible refine gate_callee (f := 34) rfl ?_); refine goesL_ (some 61) rfl rfl Tryd.func34 (by kernel_rfl) rfl #[.int .u64 a0, .int .i64 a1] rfl (by (try simp only [List.map_toArray, List.map_cons, List.map_nil]); first | done | rfl | (simp only [List.length_drop, List.length_take]; rfl)) ?_; (with_reducible refine (cubitref03_Close.calls kj6 a0 a1 t278 t279 t280 _ A24.out).mono ?_); rintro e w' ⟨rfl, ⟨nd, rfl⟩⟩; refine ⟨_, rfl, ?_⟩) | ((with_reducible refine gate_callee (f := 23) rfl ?_); refine goesL_ (some 68) rfl rfl Tryd.func23 (by kernel_rfl) rfl #[.int .u64 a0, .int .i64 a1] rfl (by (try simp only [List.map_toArray, List.map_cons, List.map_nil]); first | done | rfl | (simp only [List.length_drop, List.length_take]; rfl)) ?_; (with_reducible refine (bits_Close.calls a0 a1 t281 t282 t283 _ A25.out).mono ?_); rintro e w' ⟨rfl, ⟨nd, rfl⟩⟩; refine ⟨_, rfl, ?_⟩) | ((with_reducible refine gate_callee (f := 35) rfl ?_); refine goesL_ (some 76) rfl rfl Tryd.func35 (by kernel_rfl) rfl #[.int .u64 a0, .int .i64 a1, .int .i64 a2] rfl (by (try simp only [List.map_toArray, List.map_cons, List.map_nil]); first | done | rfl | (simp only [List.length_drop, List.length_take]; rfl)) ?_; (with_reducible refine (cubitref03_Swap.calls kj6 a0 a1 a2 t284 t285 _ A26.out).mono ?_); rintro e w' ⟨rfl, ⟨nd, rfl⟩⟩; refine ⟨_, rfl, ?_⟩) | ((with_reducible refine gate_callee (f := 36) rfl ?_); refine goesL_ (some 83) rfl rfl Tryd.func36 (by kernel_rfl) rfl #[.int .u64 a0, .int .i64 a1, .int .i64 a2] rfl (by (try simp only [List.map_toArray, List.map_cons, List.map_nil]); first | done | rfl | (simp only [List.length_drop, List.length_take]; rfl)) ?_; (with_reducible refine (bits_Swap.calls kj6 a0 a1 a2 t286 t287 _ A27.out).mono ?_); rintro e w' ⟨rfl, ⟨nd, rfl⟩⟩; refine ⟨_, rfl, ?_⟩) | ((with_reducible refine gate_callee (f := 37) rfl ?_); refine goesL_ (some 90) rfl rfl Tryd.func37 (by kernel_rfl) rfl #[.int .u64 a0, .int .i64 a1, .int .i64 a3] rfl (by (try simp only [List.map_toArray, List.map_cons, List.map_nil]); first | done | rfl | (simp only [List.length_drop, List.length_take]; rfl)) ?_; (with_reducible refine (cubitref03_Open.calls kj6 a0 a1 a3 t288 t289 _ A28.out).mono ?_); rintro e w' ⟨rfl, ⟨nd, rfl⟩⟩; refine ⟨_, rfl, ?_⟩) | ((with_reducible refine gate_callee (f := 24) rfl ?_); refine goesL_ (some 97) rfl rfl Tryd.func24 (by kernel_rfl) rfl #[.int .u64 a0, .int .i64 a1, .int .i64 a3] rfl (by (try simp only [List.map_toArray, List.map_cons, List.map_nil]); first | done | rfl | (simp only [List.length_drop, List.length_take]; rfl)) ?_; (with_reducible refine (bits_Open.calls kj6 a0 a1 a3 t290 t291 _ A29.out).mono ?_); rintro e w' ⟨rfl, ⟨nd, rfl⟩⟩; refine ⟨_, rfl, ?_⟩))
                      go_ret
                      exact ⟨by first | rfl | (simp [errW_none, errW_some] <;> rfl) | (simp [*, errW_none, errW_some] <;> rfl), by repeat (first | (with_reducible first | exact HB.out | apply below_alloc | apply pw_below_drewN | apply below_drew1) | exact HB.out)⟩
                    · rw [if_neg c35] at H
                      have c35b0 : (t290 == t288) = false := beq_eq_false_iff_ne.mpr c35
                      have c35b1 : (t290 != t288) = true := bne_iff_ne.mpr c35
                      exact absurd (HTRUE.out.symm.trans (Option.some.inj H).symm) (by decide)
                  · rw [if_neg c34] at H
                    have c34b0 : (t287 == t285) = false := beq_eq_false_iff_ne.mpr c34
                    have c34b1 : (t287 != t285) = true := bne_iff_ne.mpr c34
                    exact absurd (HTRUE.out.symm.trans (Option.some.inj H).symm) (by decide)
                · rw [if_neg c33] at H
                  have c33b0 : (t286 == t284) = false := beq_eq_false_iff_ne.mpr c33
                  have c33b1 : (t286 != t284) = true := bne_iff_ne.mpr c33
                  exact absurd (HTRUE.out.symm.trans (Option.some.inj H).symm) (by decide)
              · rw [if_neg c32] at H
                have c32b0 : (t283 == t280) = false := beq_eq_false_iff_ne.mpr c32
                have c32b1 : (t283 != t280) = true := bne_iff_ne.mpr c32
                exact absurd (HTRUE.out.symm.trans (Option.some.inj H).symm) (by decide)
            · rw [if_neg c31] at H
              have c31b0 : (t282 == t279) = false := beq_eq_false_iff_ne.mpr c31
              have c31b1 : (t282 != t279) = true := bne_iff_ne.mpr c31
              exact absurd (HTRUE.out.symm.trans (Option.some.inj H).symm) (by decide)
          · rw [if_neg c30] at H
            have c30b0 : (t281 == t278) = false := beq_eq_false_iff_ne.mpr c30
            have c30b1 : (t281 != t278) = true := bne_iff_ne.mpr c30
            exact absurd (HTRUE.out.symm.trans (Option.some.inj H).symm) (by decide)
  · replace c6 := Bool.eq_false_iff.mpr c6
    subst c6
    have H1 : (some false) = some r := by rw [if_neg (show ¬ (false = true) by decide)] at H; exact H
    clear H
    have H := H1
    clear H1
    exact absurd (HTRUE.out.symm.trans (Option.some.inj H).symm) (by decide)

/-- THE ONE PURE STATEMENT of cubitlaw03_BitsNumbers: yours. -/
def cubitlaw03_BitsNumbers.Pure : Prop := ∀ (a0 : Int) (a1 : Int) (a2 : Int) (a3 : Int), (Lit.int .u64 a0).wf = true → (Lit.int .i64 a1).wf = true → (Lit.int .i64 a2).wf = true → (Lit.int .i64 a3).wf = true → ∃ k, cubitlaw03_BitsNumbers.f k a0 a1 a2 a3 = some true
theorem cubitlaw03_BitsNumbers.walk (P : cubitlaw03_BitsNumbers.Pure) (a0 : Int) (a1 : Int) (a2 : Int) (a3 : Int) (w : World) (T : Tab w) (w0 : (Lit.int .u64 a0).wf = true) (w1 : (Lit.int .i64 a1).wf = true) (w2 : (Lit.int .i64 a2).wf = true) (w3 : (Lit.int .i64 a3).wf = true) :
    Calls Tryd.prog 8 #[.int .u64 a0, .int .i64 a1, .int .i64 a2, .int .i64 a3] w fun e w' => e = .returned (.bool true) ∧ Below w.heap.size w w' := by
  obtain ⟨k, h⟩ := P a0 a1 a2 a3 w0 w1 w2 w3
  refine (cubitlaw03_BitsNumbers.calls k a0 a1 a2 a3 true w T h rfl).mono ?_
  rintro e w' ⟨rfl, hd⟩
  exact ⟨rfl, hd⟩

end Go.Proofs.YtoebcbhadcpcoaaDoor.PA
