/- Printed for this claim by a program of the session: contracts of Go functions: a call answers what its Lean function tells, wherever that tells something. -/
import Derived.Test.YtoebcbhadcpcoaaDoorPAx0
import Derived.Test.YtoebcbhadcpcoaaDoorPAx1
import Derived.Test.YtoebcbhadcpcoaaDoorPAx2
import Derived.Test.YtoebcbhadcpcoaaDoorPAx7
namespace Go.Proofs.YtoebcbhadcpcoaaDoor.PA
open Go.RowKit Go.Proofs.YtoebcbhadcpcoaaDoorW.PrintWords Go.Proofs.YtoebcbhadcpcoaaDoorW.PrintLast Go.Proofs.YtoebcbhadcpcoaaDoorW.PrintMore
attribute [local go_sem] max2_int min2_int max_two min_two max_three min_three max_four min_four   -- for this text's walks alone
set_option linter.unusedVariables false
set_option linter.unusedSimpArgs false

/-! ### cubitlaw03_BitsTexts: function 5 -/
mutual
def cubitlaw03_BitsTexts.j0 : Nat → Int → Int → ByteArray → ByteArray → Int → Int → Int → Int → Bool → Option (Bool)
  | 0, _, _, _, _, _, _, _, _, _ => none
  | k + 1, x0, x1, x2, x9, x10, x14, x15, x16, x70 => if x70 = true then (some false) else (if x10 = 0 then ((bits_Parse.f k x9).bind fun bt209 => (if bt209.1 = x0 then (if bt209.2.1 = x1 then (cubitlaw03_BitsTexts.j1 k x2 x14 x15 x16 (bt209.2.2 != 0)) else (cubitlaw03_BitsTexts.j1 k x2 x14 x15 x16 true)) else (cubitlaw03_BitsTexts.j1 k x2 x14 x15 x16 true))) else (if x16 = 0 then ((bits_Text.f k x14 x15).bind fun bt214 => (if bt214.1.toList = x2.toList then (some (bt214.2 == 0)) else (some false))) else (some true)))
def cubitlaw03_BitsTexts.j1 : Nat → ByteArray → Int → Int → Int → Bool → Option (Bool)
  | 0, _, _, _, _, _ => none
  | k + 1, x2, x14, x15, x16, x90 => if x90 = true then (some false) else (if x16 = 0 then ((bits_Text.f k x14 x15).bind fun bt212 => (if bt212.1.toList = x2.toList then (some (bt212.2 == 0)) else (some false))) else (some true))
end
def cubitlaw03_BitsTexts.f (k : Nat) (a0 : Int) (a1 : Int) (a2 : ByteArray) : Option (Bool) := (cubitlaw03_awake.f k).bind fun t198 => (if t198 = true then ((cubitref03_Text.f k a0 a1).bind fun bt199 => ((bits_Text.f k a0 a1).bind fun bt201 => ((cubitref03_Parse.f k a2).bind fun bt203 => ((bits_Parse.f k a2).bind fun bt206 => (if bt201.1.toList = bt199.1.toList then (if bt201.2 = bt199.2 then (if bt206.1 = bt203.1 then (if bt206.2.1 = bt203.2.1 then (cubitlaw03_BitsTexts.j0 k a0 a1 a2 bt201.1 bt201.2 bt206.1 bt206.2.1 bt206.2.2 (bt206.2.2 != bt203.2.2)) else (cubitlaw03_BitsTexts.j0 k a0 a1 a2 bt201.1 bt201.2 bt206.1 bt206.2.1 bt206.2.2 true)) else (cubitlaw03_BitsTexts.j0 k a0 a1 a2 bt201.1 bt201.2 bt206.1 bt206.2.1 bt206.2.2 true)) else (cubitlaw03_BitsTexts.j0 k a0 a1 a2 bt201.1 bt201.2 bt206.1 bt206.2.1 bt206.2.2 true)) else (cubitlaw03_BitsTexts.j0 k a0 a1 a2 bt201.1 bt201.2 bt206.1 bt206.2.1 bt206.2.2 true)))))) else (some false))
theorem cubitlaw03_BitsTexts.mono_l : ∀ k, (∀ y0 y1 y2 y3 y4 y5 y6 y7 y8, LeO (cubitlaw03_BitsTexts.j0 k y0 y1 y2 y3 y4 y5 y6 y7 y8) (cubitlaw03_BitsTexts.j0 (k + 1) y0 y1 y2 y3 y4 y5 y6 y7 y8)) ∧ (∀ y0 y1 y2 y3 y4, LeO (cubitlaw03_BitsTexts.j1 k y0 y1 y2 y3 y4) (cubitlaw03_BitsTexts.j1 (k + 1) y0 y1 y2 y3 y4))
  | 0 => ⟨fun _ _ _ _ _ _ _ _ _ r h => by simp [cubitlaw03_BitsTexts.j0] at h, fun _ _ _ _ _ r h => by simp [cubitlaw03_BitsTexts.j1] at h⟩
  | k + 1 => by
    obtain ⟨ih0, ih1⟩ := cubitlaw03_BitsTexts.mono_l k
    refine ⟨?_, ?_⟩
    · intro y0 y1 y2 y3 y4 y5 y6 y7 y8
      unfold cubitlaw03_BitsTexts.j0
      repeat' first
      | (with_reducible exact ih0 _ _ _ _ _ _ _ _ _)
      | (with_reducible exact ih1 _ _ _ _ _)
      | (with_reducible exact bits_Parse.mono _ _)
      | (with_reducible exact bits_Text.mono _ _ _)
      | (with_reducible exact cubitlaw03_awake.mono _)
      | (with_reducible exact cubitref03_Parse.mono _ _)
      | (with_reducible exact cubitref03_Text.mono _ _ _)
      | (with_reducible exact LeO.refl _)
      | (with_reducible exact LeO.none _)
      | (with_reducible refine LeO.ite ?_ ?_)
      | (with_reducible refine LeO.bind ?_ (fun _ => ?_))
      | exact ih0 _ _ _ _ _ _ _ _ _
      | exact ih1 _ _ _ _ _
      | exact bits_Parse.mono _ _
      | exact bits_Text.mono _ _ _
      | exact cubitlaw03_awake.mono _
      | exact cubitref03_Parse.mono _ _
      | exact cubitref03_Text.mono _ _ _
      | exact LeO.none _
      | refine LeO.ite ?_ ?_
      | refine LeO.bind ?_ (fun _ => ?_)
    · intro y0 y1 y2 y3 y4
      unfold cubitlaw03_BitsTexts.j1
      repeat' first
      | (with_reducible exact ih0 _ _ _ _ _ _ _ _ _)
      | (with_reducible exact ih1 _ _ _ _ _)
      | (with_reducible exact bits_Parse.mono _ _)
      | (with_reducible exact bits_Text.mono _ _ _)
      | (with_reducible exact cubitlaw03_awake.mono _)
      | (with_reducible exact cubitref03_Parse.mono _ _)
      | (with_reducible exact cubitref03_Text.mono _ _ _)
      | (with_reducible exact LeO.refl _)
      | (with_reducible exact LeO.none _)
      | (with_reducible refine LeO.ite ?_ ?_)
      | (with_reducible refine LeO.bind ?_ (fun _ => ?_))
      | exact ih0 _ _ _ _ _ _ _ _ _
      | exact ih1 _ _ _ _ _
      | exact bits_Parse.mono _ _
      | exact bits_Text.mono _ _ _
      | exact cubitlaw03_awake.mono _
      | exact cubitref03_Parse.mono _ _
      | exact cubitref03_Text.mono _ _ _
      | exact LeO.none _
      | refine LeO.ite ?_ ?_
      | refine LeO.bind ?_ (fun _ => ?_)
theorem cubitlaw03_BitsTexts.mono : ∀ a0 a1 a2 k, LeO (cubitlaw03_BitsTexts.f k a0 a1 a2) (cubitlaw03_BitsTexts.f (k + 1) a0 a1 a2) := by
  intro a0 a1 a2 k
  obtain ⟨ih0, ih1⟩ := cubitlaw03_BitsTexts.mono_l k
  unfold cubitlaw03_BitsTexts.f
  repeat' first
      | (with_reducible exact ih0 _ _ _ _ _ _ _ _ _)
      | (with_reducible exact ih1 _ _ _ _ _)
      | (with_reducible exact bits_Parse.mono _ _)
      | (with_reducible exact bits_Text.mono _ _ _)
      | (with_reducible exact cubitlaw03_awake.mono _)
      | (with_reducible exact cubitref03_Parse.mono _ _)
      | (with_reducible exact cubitref03_Text.mono _ _ _)
      | (with_reducible exact LeO.refl _)
      | (with_reducible exact LeO.none _)
      | (with_reducible refine LeO.ite ?_ ?_)
      | (with_reducible refine LeO.bind ?_ (fun _ => ?_))
      | exact ih0 _ _ _ _ _ _ _ _ _
      | exact ih1 _ _ _ _ _
      | exact bits_Parse.mono _ _
      | exact bits_Text.mono _ _ _
      | exact cubitlaw03_awake.mono _
      | exact cubitref03_Parse.mono _ _
      | exact cubitref03_Text.mono _ _ _
      | exact LeO.none _
      | refine LeO.ite ?_ ?_
      | refine LeO.bind ?_ (fun _ => ?_)
set_option maxHeartbeats 8000000 in
set_option maxRecDepth 100000 in
theorem cubitlaw03_BitsTexts.calls (k : Nat) (a0 : Int) (a1 : Int) (a2 : ByteArray) (r : Bool) (w : World) (h : cubitlaw03_BitsTexts.f k a0 a1 a2 = some r) (htrue : r = true) :
    Calls Tryd.prog 5 #[.int .u64 a0, .int .i64 a1, .string a2] w fun e w' => e = .returned (.bool r) ∧ Below w.heap.size w w' := by
  have HB := Aside0.mk (Below.refl w.heap.size w)
  have HTRUE := Aside0.mk htrue
  clear htrue
  have H : ((cubitlaw03_awake.f k).bind fun t198 => (if t198 = true then ((cubitref03_Text.f k a0 a1).bind fun bt199 => ((bits_Text.f k a0 a1).bind fun bt201 => ((cubitref03_Parse.f k a2).bind fun bt203 => ((bits_Parse.f k a2).bind fun bt206 => (if bt201.1.toList = bt199.1.toList then (if bt201.2 = bt199.2 then (if bt206.1 = bt203.1 then (if bt206.2.1 = bt203.2.1 then (cubitlaw03_BitsTexts.j0 k a0 a1 a2 bt201.1 bt201.2 bt206.1 bt206.2.1 bt206.2.2 (bt206.2.2 != bt203.2.2)) else (cubitlaw03_BitsTexts.j0 k a0 a1 a2 bt201.1 bt201.2 bt206.1 bt206.2.1 bt206.2.2 true)) else (cubitlaw03_BitsTexts.j0 k a0 a1 a2 bt201.1 bt201.2 bt206.1 bt206.2.1 bt206.2.2 true)) else (cubitlaw03_BitsTexts.j0 k a0 a1 a2 bt201.1 bt201.2 bt206.1 bt206.2.1 bt206.2.2 true)) else (cubitlaw03_BitsTexts.j0 k a0 a1 a2 bt201.1 bt201.2 bt206.1 bt206.2.1 bt206.2.2 true)))))) else (some false))) = some r := h
  clear h
  replace H := Option.bind_eq_some_iff.mp H
  obtain ⟨t198, A40, H⟩ := H
  replace H : (if t198 = true then ((cubitref03_Text.f k a0 a1).bind fun bt199 => ((bits_Text.f k a0 a1).bind fun bt201 => ((cubitref03_Parse.f k a2).bind fun bt203 => ((bits_Parse.f k a2).bind fun bt206 => (if bt201.1.toList = bt199.1.toList then (if bt201.2 = bt199.2 then (if bt206.1 = bt203.1 then (if bt206.2.1 = bt203.2.1 then (cubitlaw03_BitsTexts.j0 k a0 a1 a2 bt201.1 bt201.2 bt206.1 bt206.2.1 bt206.2.2 (bt206.2.2 != bt203.2.2)) else (cubitlaw03_BitsTexts.j0 k a0 a1 a2 bt201.1 bt201.2 bt206.1 bt206.2.1 bt206.2.2 true)) else (cubitlaw03_BitsTexts.j0 k a0 a1 a2 bt201.1 bt201.2 bt206.1 bt206.2.1 bt206.2.2 true)) else (cubitlaw03_BitsTexts.j0 k a0 a1 a2 bt201.1 bt201.2 bt206.1 bt206.2.1 bt206.2.2 true)) else (cubitlaw03_BitsTexts.j0 k a0 a1 a2 bt201.1 bt201.2 bt206.1 bt206.2.1 bt206.2.2 true)))))) else (some false)) = some r := H
  have A4 := Aside0.mk A40
  clear A40
  by_cases c5 : t198 = true
  · subst c5
    have H1 : ((cubitref03_Text.f k a0 a1).bind fun bt199 => ((bits_Text.f k a0 a1).bind fun bt201 => ((cubitref03_Parse.f k a2).bind fun bt203 => ((bits_Parse.f k a2).bind fun bt206 => (if bt201.1.toList = bt199.1.toList then (if bt201.2 = bt199.2 then (if bt206.1 = bt203.1 then (if bt206.2.1 = bt203.2.1 then (cubitlaw03_BitsTexts.j0 k a0 a1 a2 bt201.1 bt201.2 bt206.1 bt206.2.1 bt206.2.2 (bt206.2.2 != bt203.2.2)) else (cubitlaw03_BitsTexts.j0 k a0 a1 a2 bt201.1 bt201.2 bt206.1 bt206.2.1 bt206.2.2 true)) else (cubitlaw03_BitsTexts.j0 k a0 a1 a2 bt201.1 bt201.2 bt206.1 bt206.2.1 bt206.2.2 true)) else (cubitlaw03_BitsTexts.j0 k a0 a1 a2 bt201.1 bt201.2 bt206.1 bt206.2.1 bt206.2.2 true)) else (cubitlaw03_BitsTexts.j0 k a0 a1 a2 bt201.1 bt201.2 bt206.1 bt206.2.1 bt206.2.2 true)))))) = some r := by rw [if_pos rfl] at H; exact H
    clear H
    have H := H1
    clear H1
    replace H := Option.bind_eq_some_iff.mp H
    obtain ⟨⟨t199, t200⟩, A60, H⟩ := H
    replace H : ((bits_Text.f k a0 a1).bind fun bt201 => ((cubitref03_Parse.f k a2).bind fun bt203 => ((bits_Parse.f k a2).bind fun bt206 => (if bt201.1.toList = t199.toList then (if bt201.2 = t200 then (if bt206.1 = bt203.1 then (if bt206.2.1 = bt203.2.1 then (cubitlaw03_BitsTexts.j0 k a0 a1 a2 bt201.1 bt201.2 bt206.1 bt206.2.1 bt206.2.2 (bt206.2.2 != bt203.2.2)) else (cubitlaw03_BitsTexts.j0 k a0 a1 a2 bt201.1 bt201.2 bt206.1 bt206.2.1 bt206.2.2 true)) else (cubitlaw03_BitsTexts.j0 k a0 a1 a2 bt201.1 bt201.2 bt206.1 bt206.2.1 bt206.2.2 true)) else (cubitlaw03_BitsTexts.j0 k a0 a1 a2 bt201.1 bt201.2 bt206.1 bt206.2.1 bt206.2.2 true)) else (cubitlaw03_BitsTexts.j0 k a0 a1 a2 bt201.1 bt201.2 bt206.1 bt206.2.1 bt206.2.2 true))))) = some r := H
    have A6 := Aside0.mk A60
    clear A60
    replace H := Option.bind_eq_some_iff.mp H
    obtain ⟨⟨t201, t202⟩, A70, H⟩ := H
    replace H : ((cubitref03_Parse.f k a2).bind fun bt203 => ((bits_Parse.f k a2).bind fun bt206 => (if t201.toList = t199.toList then (if t202 = t200 then (if bt206.1 = bt203.1 then (if bt206.2.1 = bt203.2.1 then (cubitlaw03_BitsTexts.j0 k a0 a1 a2 t201 t202 bt206.1 bt206.2.1 bt206.2.2 (bt206.2.2 != bt203.2.2)) else (cubitlaw03_BitsTexts.j0 k a0 a1 a2 t201 t202 bt206.1 bt206.2.1 bt206.2.2 true)) else (cubitlaw03_BitsTexts.j0 k a0 a1 a2 t201 t202 bt206.1 bt206.2.1 bt206.2.2 true)) else (cubitlaw03_BitsTexts.j0 k a0 a1 a2 t201 t202 bt206.1 bt206.2.1 bt206.2.2 true)) else (cubitlaw03_BitsTexts.j0 k a0 a1 a2 t201 t202 bt206.1 bt206.2.1 bt206.2.2 true)))) = some r := H
    have A7 := Aside0.mk A70
    clear A70
    replace H := Option.bind_eq_some_iff.mp H
    obtain ⟨⟨t203, t204, t205⟩, A80, H⟩ := H
    replace H : ((bits_Parse.f k a2).bind fun bt206 => (if t201.toList = t199.toList then (if t202 = t200 then (if bt206.1 = t203 then (if bt206.2.1 = t204 then (cubitlaw03_BitsTexts.j0 k a0 a1 a2 t201 t202 bt206.1 bt206.2.1 bt206.2.2 (bt206.2.2 != t205)) else (cubitlaw03_BitsTexts.j0 k a0 a1 a2 t201 t202 bt206.1 bt206.2.1 bt206.2.2 true)) else (cubitlaw03_BitsTexts.j0 k a0 a1 a2 t201 t202 bt206.1 bt206.2.1 bt206.2.2 true)) else (cubitlaw03_BitsTexts.j0 k a0 a1 a2 t201 t202 bt206.1 bt206.2.1 bt206.2.2 true)) else (cubitlaw03_BitsTexts.j0 k a0 a1 a2 t201 t202 bt206.1 bt206.2.1 bt206.2.2 true))) = some r := H
    have A8 := Aside0.mk A80
    clear A80
    replace H := Option.bind_eq_some_iff.mp H
    obtain ⟨⟨t206, t207, t208⟩, A90, H⟩ := H
    replace H : (if t201.toList = t199.toList then (if t202 = t200 then (if t206 = t203 then (if t207 = t204 then (cubitlaw03_BitsTexts.j0 k a0 a1 a2 t201 t202 t206 t207 t208 (t208 != t205)) else (cubitlaw03_BitsTexts.j0 k a0 a1 a2 t201 t202 t206 t207 t208 true)) else (cubitlaw03_BitsTexts.j0 k a0 a1 a2 t201 t202 t206 t207 t208 true)) else (cubitlaw03_BitsTexts.j0 k a0 a1 a2 t201 t202 t206 t207 t208 true)) else (cubitlaw03_BitsTexts.j0 k a0 a1 a2 t201 t202 t206 t207 t208 true)) = some r := H
    have A9 := Aside0.mk A90
    clear A90
    have HC10 := Aside0.mk H
    clear H
    go_enter Tryd.func5, Tryd.ntmps5
    go_upto_region 7 with (first | ((with_reducible refine gate_callee (f := 9) rfl ?_); refine goesL_ (some 22) rfl rfl Tryd.func9 (by kernel_rfl) rfl #[] rfl (by (try simp only [List.map_toArray, List.map_cons, List.map_nil]); first | done | rfl | (simp only [List.length_drop, List.length_take]; rfl)) ?_; (with_reducible refine (cubitlaw03_awake.calls k  true _ A4.out).mono ?_); rintro e w11 ⟨rfl, hb⟩; refine ⟨_, rfl, ?_⟩; have n0_ := Aside0.mk (below_step (by repeat (first | (with_reducible first | exact HB.out | apply below_alloc | apply pw_below_drewN | apply below_drew1) | exact HB.out)) hb); clear HB; have HB := n0_; clear n0_; (try clear hb); (try clear hb2); (try clear hk); (try clear hi)) | ((with_reducible refine gate_callee (f := 16) rfl ?_); refine goesL_ (some 27) rfl rfl Tryd.func16 (by kernel_rfl) rfl #[.int .u64 a0, .int .i64 a1] rfl (by (try simp only [List.map_toArray, List.map_cons, List.map_nil]); first | done | rfl | (simp only [List.length_drop, List.length_take]; rfl)) ?_; (with_reducible refine (cubitref03_Text.calls k a0 a1 t199 t200 _ A6.out).mono ?_); rintro e w' ⟨rfl, ⟨nd, rfl⟩⟩; refine ⟨_, rfl, ?_⟩) | ((with_reducible refine gate_callee (f := 17) rfl ?_); refine goesL_ (some 33) rfl rfl Tryd.func17 (by kernel_rfl) rfl #[.int .u64 a0, .int .i64 a1] rfl (by (try simp only [List.map_toArray, List.map_cons, List.map_nil]); first | done | rfl | (simp only [List.length_drop, List.length_take]; rfl)) ?_; (with_reducible refine (bits_Text.calls k a0 a1 t201 t202 _ A7.out).mono ?_); rintro e w12 ⟨rfl, hb⟩; refine ⟨_, rfl, ?_⟩; have n0_ := Aside0.mk (below_step (by repeat (first | (with_reducible first | exact HB.out | apply below_alloc | apply pw_below_drewN | apply below_drew1) | exact HB.out)) hb); clear HB; have HB := n0_; clear n0_; (try clear hb); (try clear hb2); (try clear hk); (try clear hi)) | ((with_reducible refine gate_callee (f := 18) rfl ?_); refine goesL_ (some 38) rfl rfl Tryd.func18 (by kernel_rfl) rfl #[.string a2] rfl (by (try simp only [List.map_toArray, List.map_cons, List.map_nil]); first | done | rfl | (simp only [List.length_drop, List.length_take]; rfl)) ?_; (with_reducible refine (cubitref03_Parse.calls k a2 t203 t204 t205 _ A8.out).mono ?_); rintro e w' ⟨rfl, ⟨nd, rfl⟩⟩; refine ⟨_, rfl, ?_⟩) | ((with_reducible refine gate_callee (f := 19) rfl ?_); refine goesL_ (some 44) rfl rfl Tryd.func19 (by kernel_rfl) rfl #[.string a2] rfl (by (try simp only [List.map_toArray, List.map_cons, List.map_nil]); first | done | rfl | (simp only [List.length_drop, List.length_take]; rfl)) ?_; (with_reducible refine (bits_Parse.calls k a2 t206 t207 t208 _ A9.out).mono ?_); rintro e w' ⟨rfl, ⟨nd, rfl⟩⟩; refine ⟨_, rfl, ?_⟩))
    (try simp only [Act.put, List.setIfInBounds_toArray, List.set_cons_zero, List.set_cons_succ])
    go_cut [70] (fun v70 wc => ∃ (kq : Nat) (x70_9 : Bool), v70 = .bool x70_9 ∧ Aside0 (cubitlaw03_BitsTexts.j0 kq a0 a1 a2 t201 t202 t206 t207 t208 x70_9 = some r) ∧ Aside0 (kq ≤ k) ∧ Aside0 (Below w.heap.size w wc))
    case first =>
      have H := HC10.out
      clear HC10
      by_cases c13 : t201.toList = t199.toList
      · rw [if_pos c13] at H
        have c13b0 : (t201.toList == t199.toList) = true := beq_iff_eq.mpr c13
        have c13b1 : (t201.toList != t199.toList) = false := bne_eq_false_iff_eq.mpr c13
        clear c13
        (first | rw [c13b0] | (simp only [i64_w, i32_w]; rw [c13b0]) | skip)
        by_cases c14 : t202 = t200
        · rw [if_pos c14] at H
          have c14b0 : (t202 == t200) = true := beq_iff_eq.mpr c14
          have c14b1 : (t202 != t200) = false := bne_eq_false_iff_eq.mpr c14
          clear c14
          by_cases c15 : t206 = t203
          · rw [if_pos c15] at H
            have c15b0 : (t206 == t203) = true := beq_iff_eq.mpr c15
            have c15b1 : (t206 != t203) = false := bne_eq_false_iff_eq.mpr c15
            clear c15
            by_cases c16 : t207 = t204
            · rw [if_pos c16] at H
              have c16b0 : (t207 == t204) = true := beq_iff_eq.mpr c16
              have c16b1 : (t207 != t204) = false := bne_eq_false_iff_eq.mpr c16
              clear c16
              have H' := Aside0.mk H
              clear H
              go_wp2
              go_meet
              case rel => exact ⟨_, ((t208 != t205)), (by first | rfl | (simp; done) | (simp [*]; done)), H', ⟨by first | omega | exact Nat.le_refl _⟩, ⟨by repeat (first | (with_reducible first | exact HB.out | apply below_alloc | apply pw_below_drewN | apply below_drew1) | exact HB.out)⟩⟩
            · rw [if_neg c16] at H
              have c16b0 : (t207 == t204) = false := beq_eq_false_iff_ne.mpr c16
              have c16b1 : (t207 != t204) = true := bne_iff_ne.mpr c16
              have H' := Aside0.mk H
              clear H
              go_wp2
              go_meet
              case rel => exact ⟨_, (true), (by first | rfl | (simp; done) | (simp [*]; done)), H', ⟨by first | omega | exact Nat.le_refl _⟩, ⟨by repeat (first | (with_reducible first | exact HB.out | apply below_alloc | apply pw_below_drewN | apply below_drew1) | exact HB.out)⟩⟩
          · rw [if_neg c15] at H
            have c15b0 : (t206 == t203) = false := beq_eq_false_iff_ne.mpr c15
            have c15b1 : (t206 != t203) = true := bne_iff_ne.mpr c15
            have H' := Aside0.mk H
            clear H
            go_wp2
            go_meet
            case rel => exact ⟨_, (true), (by first | rfl | (simp; done) | (simp [*]; done)), H', ⟨by first | omega | exact Nat.le_refl _⟩, ⟨by repeat (first | (with_reducible first | exact HB.out | apply below_alloc | apply pw_below_drewN | apply below_drew1) | exact HB.out)⟩⟩
        · rw [if_neg c14] at H
          have c14b0 : (t202 == t200) = false := beq_eq_false_iff_ne.mpr c14
          have c14b1 : (t202 != t200) = true := bne_iff_ne.mpr c14
          have H' := Aside0.mk H
          clear H
          go_wp2
          go_meet
          case rel => exact ⟨_, (true), (by first | rfl | (simp; done) | (simp [*]; done)), H', ⟨by first | omega | exact Nat.le_refl _⟩, ⟨by repeat (first | (with_reducible first | exact HB.out | apply below_alloc | apply pw_below_drewN | apply below_drew1) | exact HB.out)⟩⟩
      · rw [if_neg c13] at H
        have c13b0 : (t201.toList == t199.toList) = false := beq_eq_false_iff_ne.mpr c13
        have c13b1 : (t201.toList != t199.toList) = true := bne_iff_ne.mpr c13
        (first | rw [c13b0] | (simp only [i64_w, i32_w]; rw [c13b0]) | skip)
        have H' := Aside0.mk H
        clear H
        go_wp2
        go_meet
        case rel => exact ⟨_, (true), (by first | rfl | (simp; done) | (simp [*]; done)), H', ⟨by first | omega | exact Nat.le_refl _⟩, ⟨by repeat (first | (with_reducible first | exact HB.out | apply below_alloc | apply pw_below_drewN | apply below_drew1) | exact HB.out)⟩⟩
    case rest =>
      clear HC10
      try clear c1
      try clear p2
      try clear c5
      try clear c9
      try clear c13
      try clear c13b0
      try clear c13b1
      try clear c14
      try clear c14b0
      try clear c14b1
      try clear c15
      try clear c15b0
      try clear c15b1
      try clear c16
      try clear c16b0
      try clear c16b1
      obtain ⟨kq, x70_9, rfl, HA, HJ9, HB⟩ := hcut
      cases kq with
      | zero => exact absurd HA.out (by simp [cubitlaw03_BitsTexts.j0])
      | succ kj9 =>
        have H := HA.out
        clear HA
        simp only [cubitlaw03_BitsTexts.j0] at H
        by_cases c17 : x70_9 = true
        · subst c17
          have H1 : (some false) = some r := by rw [if_pos rfl] at H; exact H
          clear H
          have H := H1
          clear H1
          exact absurd (HTRUE.out.symm.trans (Option.some.inj H).symm) (by decide)
        · replace c17 := Bool.eq_false_iff.mpr c17
          subst c17
          have H1 : (if t202 = 0 then ((bits_Parse.f kj9 t201).bind fun bt209 => (if bt209.1 = a0 then (if bt209.2.1 = a1 then (cubitlaw03_BitsTexts.j1 kj9 a2 t206 t207 t208 (bt209.2.2 != 0)) else (cubitlaw03_BitsTexts.j1 kj9 a2 t206 t207 t208 true)) else (cubitlaw03_BitsTexts.j1 kj9 a2 t206 t207 t208 true))) else (if t208 = 0 then ((bits_Text.f kj9 t206 t207).bind fun bt214 => (if bt214.1.toList = a2.toList then (some (bt214.2 == 0)) else (some false))) else (some true))) = some r := by rw [if_neg (show ¬ (false = true) by decide)] at H; exact H
          clear H
          have H := H1
          clear H1
          by_cases c18 : t202 = 0
          · rw [if_pos c18] at H
            have c18b0 : (t202 == 0) = true := beq_iff_eq.mpr c18
            have c18b1 : (t202 != 0) = false := bne_eq_false_iff_eq.mpr c18
            clear c18
            replace H := Option.bind_eq_some_iff.mp H
            obtain ⟨⟨t209, t210, t211⟩, A190, H⟩ := H
            replace H : (if t209 = a0 then (if t210 = a1 then (cubitlaw03_BitsTexts.j1 kj9 a2 t206 t207 t208 (t211 != 0)) else (cubitlaw03_BitsTexts.j1 kj9 a2 t206 t207 t208 true)) else (cubitlaw03_BitsTexts.j1 kj9 a2 t206 t207 t208 true)) = some r := H
            have A19 := Aside0.mk A190
            clear A190
            have HC20 := Aside0.mk H
            clear H
            go_upto_region 11 with (first | ((with_reducible refine gate_callee (f := 19) rfl ?_); refine goesL_ (some 75) rfl rfl Tryd.func19 (by kernel_rfl) rfl #[.string t201] rfl (by (try simp only [List.map_toArray, List.map_cons, List.map_nil]); first | done | rfl | (simp only [List.length_drop, List.length_take]; rfl)) ?_; (with_reducible refine (bits_Parse.calls kj9 t201 t209 t210 t211 _ A19.out).mono ?_); rintro e w' ⟨rfl, ⟨nd, rfl⟩⟩; refine ⟨_, rfl, ?_⟩))
            (try simp only [Act.put, List.setIfInBounds_toArray, List.set_cons_zero, List.set_cons_succ])
            go_cut [90] (fun v90 wc => ∃ (kq : Nat) (x90_19 : Bool), v90 = .bool x90_19 ∧ Aside0 (cubitlaw03_BitsTexts.j1 kq a2 t206 t207 t208 x90_19 = some r) ∧ Aside0 (kq ≤ kj9) ∧ Aside0 (Below w.heap.size w wc))
            case first =>
              have H := HC20.out
              clear HC20
              by_cases c21 : t209 = a0
              · rw [if_pos c21] at H
                have c21b0 : (t209 == a0) = true := beq_iff_eq.mpr c21
                have c21b1 : (t209 != a0) = false := bne_eq_false_iff_eq.mpr c21
                clear c21
                (first | rw [c21b0] | (simp only [i64_w, i32_w]; rw [c21b0]) | skip)
                by_cases c22 : t210 = a1
                · rw [if_pos c22] at H
                  have c22b0 : (t210 == a1) = true := beq_iff_eq.mpr c22
                  have c22b1 : (t210 != a1) = false := bne_eq_false_iff_eq.mpr c22
                  clear c22
                  have H' := Aside0.mk H
                  clear H
                  go_wp2
                  go_meet
                  case rel => exact ⟨_, ((t211 != 0)), (by first | rfl | (simp; done) | (simp [*]; done)), H', ⟨by have := HJ9.out; first | omega | exact Nat.le_refl _⟩, ⟨by repeat (first | (with_reducible first | exact HB.out | apply below_alloc | apply pw_below_drewN | apply below_drew1) | exact HB.out)⟩⟩
                · rw [if_neg c22] at H
                  have c22b0 : (t210 == a1) = false := beq_eq_false_iff_ne.mpr c22
                  have c22b1 : (t210 != a1) = true := bne_iff_ne.mpr c22
                  have H' := Aside0.mk H
                  clear H
                  go_wp2
                  go_meet
                  case rel => exact ⟨_, (true), (by first | rfl | (simp; done) | (simp [*]; done)), H', ⟨by have := HJ9.out; first | omega | exact Nat.le_refl _⟩, ⟨by repeat (first | (with_reducible first | exact HB.out | apply below_alloc | apply pw_below_drewN | apply below_drew1) | exact HB.out)⟩⟩
              · rw [if_neg c21] at H
                have c21b0 : (t209 == a0) = false := beq_eq_false_iff_ne.mpr c21
                have c21b1 : (t209 != a0) = true := bne_iff_ne.mpr c21
                (first | rw [c21b0] | (simp only [i64_w, i32_w]; rw [c21b0]) | skip)
                have H' := Aside0.mk H
                clear H
                go_wp2
                go_meet
                case rel => exact ⟨_, (true), (by first | rfl | (simp; done) | (simp [*]; done)), H', ⟨by have := HJ9.out; first | omega | exact Nat.le_refl _⟩, ⟨by repeat (first | (with_reducible first | exact HB.out | apply below_alloc | apply pw_below_drewN | apply below_drew1) | exact HB.out)⟩⟩
            case rest =>
              clear HC20
              try clear c1
              try clear c2
              try clear p2
              try clear c5
              try clear c9
              try clear c13
              try clear c13b0
              try clear c13b1
              try clear c14
              try clear c14b0
              try clear c14b1
              try clear c15
              try clear c15b0
              try clear c15b1
              try clear c16
              try clear c16b0
              try clear c16b1
              try clear c17
              try clear c18
              try clear c18b0
              try clear c18b1
              try clear c19
              try clear c21
              try clear c21b0
              try clear c21b1
              try clear c22
              try clear c22b0
              try clear c22b1
              try clear p2
              obtain ⟨kq, x90_19, rfl, HA, HJ19, HB⟩ := hcut
              cases kq with
              | zero => exact absurd HA.out (by simp [cubitlaw03_BitsTexts.j1])
              | succ kj19 =>
                have H := HA.out
                clear HA
                simp only [cubitlaw03_BitsTexts.j1] at H
                by_cases c23 : x90_19 = true
                · subst c23
                  have H1 : (some false) = some r := by rw [if_pos rfl] at H; exact H
                  clear H
                  have H := H1
                  clear H1
                  exact absurd (HTRUE.out.symm.trans (Option.some.inj H).symm) (by decide)
                · replace c23 := Bool.eq_false_iff.mpr c23
                  subst c23
                  have H1 : (if t208 = 0 then ((bits_Text.f kj19 t206 t207).bind fun bt212 => (if bt212.1.toList = a2.toList then (some (bt212.2 == 0)) else (some false))) else (some true)) = some r := by rw [if_neg (show ¬ (false = true) by decide)] at H; exact H
                  clear H
                  have H := H1
                  clear H1
                  by_cases c24 : t208 = 0
                  · rw [if_pos c24] at H
                    have c24b0 : (t208 == 0) = true := beq_iff_eq.mpr c24
                    have c24b1 : (t208 != 0) = false := bne_eq_false_iff_eq.mpr c24
                    clear c24
                    replace H := Option.bind_eq_some_iff.mp H
                    obtain ⟨⟨t212, t213⟩, A250, H⟩ := H
                    replace H : (if t212.toList = a2.toList then (some (t213 == 0)) else (some false)) = some r := H
                    have A25 := Aside0.mk A250
                    clear A250
                    by_cases c26 : t212.toList = a2.toList
                    · rw [if_pos c26] at H
                      have c26b0 : (t212.toList == a2.toList) = true := beq_iff_eq.mpr c26
                      have c26b1 : (t212.toList != a2.toList) = false := bne_eq_false_iff_eq.mpr c26
                      clear c26
                      obtain rfl := Option.some.inj H
                      go_wp2_with (first | ((with_reducible refine gate_callee (f := 17) rfl ?_); refine goesL_ (some 96) rfl rfl Tryd.func17 (by kernel_rfl) rfl #[.int .u64 t206, .int .i64 t207] rfl (by (try simp only [List.map_toArray, List.map_cons, List.map_nil]); first | done | rfl | (simp only [List.length_drop, List.length_take]; rfl)) ?_; (with_reducible refine (bits_Text.calls kj19 t206 t207 t212 t213 _ A25.out).mono ?_); rintro e w27 ⟨rfl, hb⟩; refine ⟨_, rfl, ?_⟩; have n0_ := Aside0.mk (below_step (by repeat (first | (with_reducible first | exact HB.out | apply below_alloc | apply pw_below_drewN | apply below_drew1) | exact HB.out)) hb); clear HB; have HB := n0_; clear n0_; (try clear hb); (try clear hb2); (try clear hk); (try clear hi)))
                      go_ret
                      exact ⟨by first | rfl | (simp [errW_none, errW_some] <;> rfl) | (simp [*, errW_none, errW_some] <;> rfl), by repeat (first | (with_reducible first | exact HB.out | apply below_alloc | apply pw_below_drewN | apply below_drew1) | exact HB.out)⟩
                    · rw [if_neg c26] at H
                      have c26b0 : (t212.toList == a2.toList) = false := beq_eq_false_iff_ne.mpr c26
                      have c26b1 : (t212.toList != a2.toList) = true := bne_iff_ne.mpr c26
                      exact absurd (HTRUE.out.symm.trans (Option.some.inj H).symm) (by decide)
                  · rw [if_neg c24] at H
                    have c24b0 : (t208 == 0) = false := beq_eq_false_iff_ne.mpr c24
                    have c24b1 : (t208 != 0) = true := bne_iff_ne.mpr c24
                    obtain rfl := Option.some.inj H
                    go_wp2
                    go_ret
                    exact ⟨by first | rfl | (simp [errW_none, errW_some] <;> rfl) | (simp [*, errW_none, errW_some] <;> rfl), by repeat (first | (with_reducible first | exact HB.out | apply below_alloc | apply pw_below_drewN | apply below_drew1) | exact HB.out)⟩
          · rw [if_neg c18] at H
            have c18b0 : (t202 == 0) = false := beq_eq_false_iff_ne.mpr c18
            have c18b1 : (t202 != 0) = true := bne_iff_ne.mpr c18
            by_cases c28 : t208 = 0
            · rw [if_pos c28] at H
              have c28b0 : (t208 == 0) = true := beq_iff_eq.mpr c28
              have c28b1 : (t208 != 0) = false := bne_eq_false_iff_eq.mpr c28
              clear c28
              replace H := Option.bind_eq_some_iff.mp H
              obtain ⟨⟨t214, t215⟩, A290, H⟩ := H
              replace H : (if t214.toList = a2.toList then (some (t215 == 0)) else (some false)) = some r := H
              have A29 := Aside0.mk A290
              clear A290
              by_cases c30 : t214.toList = a2.toList
              · rw [if_pos c30] at H
                have c30b0 : (t214.toList == a2.toList) = true := beq_iff_eq.mpr c30
                have c30b1 : (t214.toList != a2.toList) = false := bne_eq_false_iff_eq.mpr c30
                clear c30
                obtain rfl := Option.some.inj H
                go_wp2_with (first | ((with_reducible refine gate_callee (f := 17) rfl ?_); refine goesL_ (some 96) rfl rfl Tryd.func17 (by kernel_rfl) rfl #[.int .u64 t206, .int .i64 t207] rfl (by (try simp only [List.map_toArray, List.map_cons, List.map_nil]); first | done | rfl | (simp only [List.length_drop, List.length_take]; rfl)) ?_; (with_reducible refine (bits_Text.calls kj9 t206 t207 t214 t215 _ A29.out).mono ?_); rintro e w31 ⟨rfl, hb⟩; refine ⟨_, rfl, ?_⟩; have n0_ := Aside0.mk (below_step (by repeat (first | (with_reducible first | exact HB.out | apply below_alloc | apply pw_below_drewN | apply below_drew1) | exact HB.out)) hb); clear HB; have HB := n0_; clear n0_; (try clear hb); (try clear hb2); (try clear hk); (try clear hi)))
                go_ret
                exact ⟨by first | rfl | (simp [errW_none, errW_some] <;> rfl) | (simp [*, errW_none, errW_some] <;> rfl), by repeat (first | (with_reducible first | exact HB.out | apply below_alloc | apply pw_below_drewN | apply below_drew1) | exact HB.out)⟩
              · rw [if_neg c30] at H
                have c30b0 : (t214.toList == a2.toList) = false := beq_eq_false_iff_ne.mpr c30
                have c30b1 : (t214.toList != a2.toList) = true := bne_iff_ne.mpr c30
                exact absurd (HTRUE.out.symm.trans (Option.some.inj H).symm) (by decide)
            · rw [if_neg c28] at H
              have c28b0 : (t208 == 0) = false := beq_eq_false_iff_ne.mpr c28
              have c28b1 : (t208 != 0) = true := bne_iff_ne.mpr c28
              obtain rfl := Option.some.inj H
              go_wp2
              go_ret
              exact ⟨by first | rfl | (simp [errW_none, errW_some] <;> rfl) | (simp [*, errW_none, errW_some] <;> rfl), by repeat (first | (with_reducible first | exact HB.out | apply below_alloc | apply pw_below_drewN | apply below_drew1) | exact HB.out)⟩
  · replace c5 := Bool.eq_false_iff.mpr c5
    subst c5
    have H1 : (some false) = some r := by rw [if_neg (show ¬ (false = true) by decide)] at H; exact H
    clear H
    have H := H1
    clear H1
    exact absurd (HTRUE.out.symm.trans (Option.some.inj H).symm) (by decide)

/-- THE ONE PURE STATEMENT of cubitlaw03_BitsTexts: yours. -/
def cubitlaw03_BitsTexts.Pure : Prop := ∀ (a0 : Int) (a1 : Int) (a2 : ByteArray), (Lit.int .u64 a0).wf = true → (Lit.int .i64 a1).wf = true → a2.size ≤ 140737488351232 → ∃ k, cubitlaw03_BitsTexts.f k a0 a1 a2 = some true
theorem cubitlaw03_BitsTexts.walk (P : cubitlaw03_BitsTexts.Pure) (a0 : Int) (a1 : Int) (a2 : ByteArray) (w : World) (w0 : (Lit.int .u64 a0).wf = true) (w1 : (Lit.int .i64 a1).wf = true) (w2 : a2.size ≤ 140737488351232) :
    Calls Tryd.prog 5 #[.int .u64 a0, .int .i64 a1, .string a2] w fun e w' => e = .returned (.bool true) ∧ Below w.heap.size w w' := by
  obtain ⟨k, h⟩ := P a0 a1 a2 w0 w1 w2
  refine (cubitlaw03_BitsTexts.calls k a0 a1 a2 true w h rfl).mono ?_
  rintro e w' ⟨rfl, hd⟩
  exact ⟨rfl, hd⟩

end Go.Proofs.YtoebcbhadcpcoaaDoor.PA
