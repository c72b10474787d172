/- Printed for this claim by a program of the session: contracts of Go functions: a call answers what its Lean function tells, wherever that tells something. -/
import Derived.Test.YtoebcbhadcpcoaaDoorPAx0
import Derived.Test.YtoebcbhadcpcoaaDoorPAx1
import Derived.Test.YtoebcbhadcpcoaaDoorPAx2
import Derived.Test.YtoebcbhadcpcoaaDoorPAx3
namespace Go.Proofs.YtoebcbhadcpcoaaDoor.PA
open Go.RowKit Go.Proofs.YtoebcbhadcpcoaaDoorW.PrintWords Go.Proofs.YtoebcbhadcpcoaaDoorW.PrintLast Go.Proofs.YtoebcbhadcpcoaaDoorW.PrintMore
attribute [local go_sem] max2_int min2_int max_two min_two max_three min_three max_four min_four   -- for this text's walks alone
set_option linter.unusedVariables false
set_option linter.unusedSimpArgs false

/-! ### cubitlaw03_BitsPlaces: function 3 -/
def cubitlaw03_BitsPlaces.l0 : Nat → List Int → List Int → Int → Option (Bool)
  | 0, _, _, _ => none
  | k + 1, x2, x8, x17 => if x17 < (x2.length : Int) then (if 0 ≤ x17 then (if x17 < (x8.length : Int) then (if (rd x8 x17) = (rd x2 x17) then (cubitlaw03_BitsPlaces.l0 k x2 x8 (wrap64 (x17 + 1))) else (some false)) else (none)) else (none)) else (some true)
def cubitlaw03_BitsPlaces.f (k : Nat) (a0 : Int) (a1 : Int) (l2 : List Int) : Option (Bool) := (cubitlaw03_awake.f k).bind fun t136 => (if t136 = true then ((some (([] : List Int) : List Int)).bind fun y137 => (if y137.length + l2.length < 17592186044416 then ((some (y137 ++ l2 : List Int)).bind fun y140 => ((some (([77, 78] : List Int) : List Int)).bind fun y143 => (if y140.length + y143.length < 17592186044416 then ((some (y140 ++ y143 : List Int)).bind fun y146 => (if 0 ≤ (l2.length : Int) then (if (l2.length : Int) ≤ (y146.length : Int) then ((some (y146.take ((l2.length : Int) : Int).toNat : List Int)).bind fun y149 => ((cubitref03_Pick.f k a0 l2).bind fun bt153 => ((bits_Pick.f k a0 y149).bind fun bt155 => ((cubitref03_Put.f k a0 l2 a1).bind fun bt157 => ((bits_Put.f k a0 y149 a1).bind fun bt159 => (if bt155.1 = bt153.1 then (if bt155.2 = bt153.2 then (if bt159.1 = bt157.1 then (if bt159.2 = bt157.2 then (if (l2.length : Int) < (y146.length : Int) then (if (rd y146 (l2.length : Int)) = 77 then (if 0 ≤ (wrap64 ((l2.length : Int) + 1)) then (if (wrap64 ((l2.length : Int) + 1)) < (y146.length : Int) then (if (rd y146 (wrap64 ((l2.length : Int) + 1))) = 78 then (cubitlaw03_BitsPlaces.l0 k l2 y149 0) else (some false)) else (none)) else (none)) else (some false)) else (none)) else (some false)) else (some false)) else (some false)) else (some false))))))) else (none)) else (none))) else (none)))) else (none))) else (some false))
theorem cubitlaw03_BitsPlaces.mono_l : ∀ k, (∀ y0 y1 y2, LeO (cubitlaw03_BitsPlaces.l0 k y0 y1 y2) (cubitlaw03_BitsPlaces.l0 (k + 1) y0 y1 y2))
  | 0 => fun _ _ _ r h => by simp [cubitlaw03_BitsPlaces.l0] at h
  | k + 1 => by
    have ih0 := cubitlaw03_BitsPlaces.mono_l k
    · intro y0 y1 y2
      unfold cubitlaw03_BitsPlaces.l0
      repeat' first
      | (with_reducible exact ih0 _ _ _)
      | (with_reducible exact bits_Pick.mono _ _ _)
      | (with_reducible exact bits_Put.mono _ _ _ _)
      | (with_reducible exact cubitlaw03_awake.mono _)
      | (with_reducible exact cubitref03_Pick.mono _ _ _)
      | (with_reducible exact cubitref03_Put.mono _ _ _ _)
      | (with_reducible exact LeO.refl _)
      | (with_reducible exact LeO.none _)
      | (with_reducible refine LeO.ite ?_ ?_)
      | (with_reducible refine LeO.bind ?_ (fun _ => ?_))
      | exact ih0 _ _ _
      | exact bits_Pick.mono _ _ _
      | exact bits_Put.mono _ _ _ _
      | exact cubitlaw03_awake.mono _
      | exact cubitref03_Pick.mono _ _ _
      | exact cubitref03_Put.mono _ _ _ _
      | exact LeO.none _
      | refine LeO.ite ?_ ?_
      | refine LeO.bind ?_ (fun _ => ?_)
theorem cubitlaw03_BitsPlaces.mono : ∀ a0 a1 a2 k, LeO (cubitlaw03_BitsPlaces.f k a0 a1 a2) (cubitlaw03_BitsPlaces.f (k + 1) a0 a1 a2) := by
  intro a0 a1 a2 k
  have ih0 := cubitlaw03_BitsPlaces.mono_l k
  unfold cubitlaw03_BitsPlaces.f
  repeat' first
      | (with_reducible exact ih0 _ _ _)
      | (with_reducible exact bits_Pick.mono _ _ _)
      | (with_reducible exact bits_Put.mono _ _ _ _)
      | (with_reducible exact cubitlaw03_awake.mono _)
      | (with_reducible exact cubitref03_Pick.mono _ _ _)
      | (with_reducible exact cubitref03_Put.mono _ _ _ _)
      | (with_reducible exact LeO.refl _)
      | (with_reducible exact LeO.none _)
      | (with_reducible refine LeO.ite ?_ ?_)
      | (with_reducible refine LeO.bind ?_ (fun _ => ?_))
      | exact ih0 _ _ _
      | exact bits_Pick.mono _ _ _
      | exact bits_Put.mono _ _ _ _
      | exact cubitlaw03_awake.mono _
      | exact cubitref03_Pick.mono _ _ _
      | exact cubitref03_Put.mono _ _ _ _
      | exact LeO.none _
      | refine LeO.ite ?_ ?_
      | refine LeO.bind ?_ (fun _ => ?_)
set_option maxHeartbeats 8000000 in
set_option maxRecDepth 100000 in
theorem cubitlaw03_BitsPlaces.calls (k : Nat) (a0 : Int) (a1 : Int) (A2 : Option Addr) (c2 : Nat) (l2 : List Int) (r : Bool) (w : World) (hr2 : Kd.C (Kd.int .i64) w A2 l2.length l2) (hc2 : l2.length ≤ c2) (h : cubitlaw03_BitsPlaces.f k a0 a1 l2 = some r) (htrue : r = true) :
    Calls Tryd.prog 3 #[.int .u64 a0, .int .u64 a1, .slice A2 l2.length c2] w fun e w' => e = .returned (.bool r) ∧ Below w.heap.size w w' := by
  have HR2 := Aside0.mk hr2
  have HC2 := Aside0.mk hc2
  clear hr2 hc2
  have HB := Aside0.mk (Below.refl w.heap.size w)
  have HTRUE := Aside0.mk htrue
  clear htrue
  have H : ((cubitlaw03_awake.f k).bind fun t136 => (if t136 = true then ((some (([] : List Int) : List Int)).bind fun y137 => (if y137.length + l2.length < 17592186044416 then ((some (y137 ++ l2 : List Int)).bind fun y140 => ((some (([77, 78] : List Int) : List Int)).bind fun y143 => (if y140.length + y143.length < 17592186044416 then ((some (y140 ++ y143 : List Int)).bind fun y146 => (if 0 ≤ (l2.length : Int) then (if (l2.length : Int) ≤ (y146.length : Int) then ((some (y146.take ((l2.length : Int) : Int).toNat : List Int)).bind fun y149 => ((cubitref03_Pick.f k a0 l2).bind fun bt153 => ((bits_Pick.f k a0 y149).bind fun bt155 => ((cubitref03_Put.f k a0 l2 a1).bind fun bt157 => ((bits_Put.f k a0 y149 a1).bind fun bt159 => (if bt155.1 = bt153.1 then (if bt155.2 = bt153.2 then (if bt159.1 = bt157.1 then (if bt159.2 = bt157.2 then (if (l2.length : Int) < (y146.length : Int) then (if (rd y146 (l2.length : Int)) = 77 then (if 0 ≤ (wrap64 ((l2.length : Int) + 1)) then (if (wrap64 ((l2.length : Int) + 1)) < (y146.length : Int) then (if (rd y146 (wrap64 ((l2.length : Int) + 1))) = 78 then (cubitlaw03_BitsPlaces.l0 k l2 y149 0) else (some false)) else (none)) else (none)) else (some false)) else (none)) else (some false)) else (some false)) else (some false)) else (some false))))))) else (none)) else (none))) else (none)))) else (none))) else (some false))) = some r := h
  clear h
  replace H := Option.bind_eq_some_iff.mp H
  obtain ⟨t136, A40, H⟩ := H
  replace H : (if t136 = true then ((some (([] : List Int) : List Int)).bind fun y137 => (if y137.length + l2.length < 17592186044416 then ((some (y137 ++ l2 : List Int)).bind fun y140 => ((some (([77, 78] : List Int) : List Int)).bind fun y143 => (if y140.length + y143.length < 17592186044416 then ((some (y140 ++ y143 : List Int)).bind fun y146 => (if 0 ≤ (l2.length : Int) then (if (l2.length : Int) ≤ (y146.length : Int) then ((some (y146.take ((l2.length : Int) : Int).toNat : List Int)).bind fun y149 => ((cubitref03_Pick.f k a0 l2).bind fun bt153 => ((bits_Pick.f k a0 y149).bind fun bt155 => ((cubitref03_Put.f k a0 l2 a1).bind fun bt157 => ((bits_Put.f k a0 y149 a1).bind fun bt159 => (if bt155.1 = bt153.1 then (if bt155.2 = bt153.2 then (if bt159.1 = bt157.1 then (if bt159.2 = bt157.2 then (if (l2.length : Int) < (y146.length : Int) then (if (rd y146 (l2.length : Int)) = 77 then (if 0 ≤ (wrap64 ((l2.length : Int) + 1)) then (if (wrap64 ((l2.length : Int) + 1)) < (y146.length : Int) then (if (rd y146 (wrap64 ((l2.length : Int) + 1))) = 78 then (cubitlaw03_BitsPlaces.l0 k l2 y149 0) else (some false)) else (none)) else (none)) else (some false)) else (none)) else (some false)) else (some false)) else (some false)) else (some false))))))) else (none)) else (none))) else (none)))) else (none))) else (some false)) = some r := H
  have A4 := Aside0.mk A40
  clear A40
  by_cases c5 : t136 = true
  · subst c5
    have H1 : ((some (([] : List Int) : List Int)).bind fun y137 => (if y137.length + l2.length < 17592186044416 then ((some (y137 ++ l2 : List Int)).bind fun y140 => ((some (([77, 78] : List Int) : List Int)).bind fun y143 => (if y140.length + y143.length < 17592186044416 then ((some (y140 ++ y143 : List Int)).bind fun y146 => (if 0 ≤ (l2.length : Int) then (if (l2.length : Int) ≤ (y146.length : Int) then ((some (y146.take ((l2.length : Int) : Int).toNat : List Int)).bind fun y149 => ((cubitref03_Pick.f k a0 l2).bind fun bt153 => ((bits_Pick.f k a0 y149).bind fun bt155 => ((cubitref03_Put.f k a0 l2 a1).bind fun bt157 => ((bits_Put.f k a0 y149 a1).bind fun bt159 => (if bt155.1 = bt153.1 then (if bt155.2 = bt153.2 then (if bt159.1 = bt157.1 then (if bt159.2 = bt157.2 then (if (l2.length : Int) < (y146.length : Int) then (if (rd y146 (l2.length : Int)) = 77 then (if 0 ≤ (wrap64 ((l2.length : Int) + 1)) then (if (wrap64 ((l2.length : Int) + 1)) < (y146.length : Int) then (if (rd y146 (wrap64 ((l2.length : Int) + 1))) = 78 then (cubitlaw03_BitsPlaces.l0 k l2 y149 0) else (some false)) else (none)) else (none)) else (some false)) else (none)) else (some false)) else (some false)) else (some false)) else (some false))))))) else (none)) else (none))) else (none)))) else (none))) = some r := by rw [if_pos rfl] at H; exact H
    clear H
    have H := H1
    clear H1
    obtain ⟨y137, hy137⟩ : ∃ y_ : List Int, y_ = (([] : List Int)) := ⟨_, rfl⟩
    replace H : (if y137.length + l2.length < 17592186044416 then ((some (y137 ++ l2 : List Int)).bind fun y140 => ((some (([77, 78] : List Int) : List Int)).bind fun y143 => (if y140.length + y143.length < 17592186044416 then ((some (y140 ++ y143 : List Int)).bind fun y146 => (if 0 ≤ (l2.length : Int) then (if (l2.length : Int) ≤ (y146.length : Int) then ((some (y146.take ((l2.length : Int) : Int).toNat : List Int)).bind fun y149 => ((cubitref03_Pick.f k a0 l2).bind fun bt153 => ((bits_Pick.f k a0 y149).bind fun bt155 => ((cubitref03_Put.f k a0 l2 a1).bind fun bt157 => ((bits_Put.f k a0 y149 a1).bind fun bt159 => (if bt155.1 = bt153.1 then (if bt155.2 = bt153.2 then (if bt159.1 = bt157.1 then (if bt159.2 = bt157.2 then (if (l2.length : Int) < (y146.length : Int) then (if (rd y146 (l2.length : Int)) = 77 then (if 0 ≤ (wrap64 ((l2.length : Int) + 1)) then (if (wrap64 ((l2.length : Int) + 1)) < (y146.length : Int) then (if (rd y146 (wrap64 ((l2.length : Int) + 1))) = 78 then (cubitlaw03_BitsPlaces.l0 k l2 y149 0) else (some false)) else (none)) else (none)) else (some false)) else (none)) else (some false)) else (some false)) else (some false)) else (some false))))))) else (none)) else (none))) else (none)))) else (none)) = some r := by first | (rw [hy137]; with_reducible exact H) | (have H2_ := (Option.bind_some _ _).symm.trans H; rw [hy137]; with_reducible exact H2_) | (have H2_ := (Option.bind_some _ _).symm.trans H; with_reducible exact H2_) | with_reducible exact H | (rw [hy137]; exact H) | exact H
    have Ny137 := Aside0.mk hy137
    clear hy137
    by_cases c6 : y137.length + l2.length < 17592186044416
    · rw [if_pos c6] at H
      have LMc6 := Aside0.mk c6
      clear c6
      obtain ⟨y140, hy140⟩ : ∃ y_ : List Int, y_ = (y137 ++ l2) := ⟨_, rfl⟩
      replace H : ((some (([77, 78] : List Int) : List Int)).bind fun y143 => (if y140.length + y143.length < 17592186044416 then ((some (y140 ++ y143 : List Int)).bind fun y146 => (if 0 ≤ (l2.length : Int) then (if (l2.length : Int) ≤ (y146.length : Int) then ((some (y146.take ((l2.length : Int) : Int).toNat : List Int)).bind fun y149 => ((cubitref03_Pick.f k a0 l2).bind fun bt153 => ((bits_Pick.f k a0 y149).bind fun bt155 => ((cubitref03_Put.f k a0 l2 a1).bind fun bt157 => ((bits_Put.f k a0 y149 a1).bind fun bt159 => (if bt155.1 = bt153.1 then (if bt155.2 = bt153.2 then (if bt159.1 = bt157.1 then (if bt159.2 = bt157.2 then (if (l2.length : Int) < (y146.length : Int) then (if (rd y146 (l2.length : Int)) = 77 then (if 0 ≤ (wrap64 ((l2.length : Int) + 1)) then (if (wrap64 ((l2.length : Int) + 1)) < (y146.length : Int) then (if (rd y146 (wrap64 ((l2.length : Int) + 1))) = 78 then (cubitlaw03_BitsPlaces.l0 k l2 y149 0) else (some false)) else (none)) else (none)) else (some false)) else (none)) else (some false)) else (some false)) else (some false)) else (some false))))))) else (none)) else (none))) else (none))) = some r := by first | (rw [hy140]; with_reducible exact H) | (have H2_ := (Option.bind_some _ _).symm.trans H; rw [hy140]; with_reducible exact H2_) | (have H2_ := (Option.bind_some _ _).symm.trans H; with_reducible exact H2_) | with_reducible exact H | (rw [hy140]; exact H) | exact H
      have Ny140 := Aside0.mk hy140
      clear hy140
      obtain ⟨y143, hy143⟩ : ∃ y_ : List Int, y_ = (([77, 78] : List Int)) := ⟨_, rfl⟩
      replace H : (if y140.length + y143.length < 17592186044416 then ((some (y140 ++ y143 : List Int)).bind fun y146 => (if 0 ≤ (l2.length : Int) then (if (l2.length : Int) ≤ (y146.length : Int) then ((some (y146.take ((l2.length : Int) : Int).toNat : List Int)).bind fun y149 => ((cubitref03_Pick.f k a0 l2).bind fun bt153 => ((bits_Pick.f k a0 y149).bind fun bt155 => ((cubitref03_Put.f k a0 l2 a1).bind fun bt157 => ((bits_Put.f k a0 y149 a1).bind fun bt159 => (if bt155.1 = bt153.1 then (if bt155.2 = bt153.2 then (if bt159.1 = bt157.1 then (if bt159.2 = bt157.2 then (if (l2.length : Int) < (y146.length : Int) then (if (rd y146 (l2.length : Int)) = 77 then (if 0 ≤ (wrap64 ((l2.length : Int) + 1)) then (if (wrap64 ((l2.length : Int) + 1)) < (y146.length : Int) then (if (rd y146 (wrap64 ((l2.length : Int) + 1))) = 78 then (cubitlaw03_BitsPlaces.l0 k l2 y149 0) else (some false)) else (none)) else (none)) else (some false)) else (none)) else (some false)) else (some false)) else (some false)) else (some false))))))) else (none)) else (none))) else (none)) = some r := by first | (rw [hy143]; with_reducible exact H) | (have H2_ := (Option.bind_some _ _).symm.trans H; rw [hy143]; with_reducible exact H2_) | (have H2_ := (Option.bind_some _ _).symm.trans H; with_reducible exact H2_) | with_reducible exact H | (rw [hy143]; exact H) | exact H
      have Ny143 := Aside0.mk hy143
      clear hy143
      by_cases c7 : y140.length + y143.length < 17592186044416
      · rw [if_pos c7] at H
        have LMc7 := Aside0.mk c7
        clear c7
        obtain ⟨y146, hy146⟩ : ∃ y_ : List Int, y_ = (y140 ++ y143) := ⟨_, rfl⟩
        replace H : (if 0 ≤ (l2.length : Int) then (if (l2.length : Int) ≤ (y146.length : Int) then ((some (y146.take ((l2.length : Int) : Int).toNat : List Int)).bind fun y149 => ((cubitref03_Pick.f k a0 l2).bind fun bt153 => ((bits_Pick.f k a0 y149).bind fun bt155 => ((cubitref03_Put.f k a0 l2 a1).bind fun bt157 => ((bits_Put.f k a0 y149 a1).bind fun bt159 => (if bt155.1 = bt153.1 then (if bt155.2 = bt153.2 then (if bt159.1 = bt157.1 then (if bt159.2 = bt157.2 then (if (l2.length : Int) < (y146.length : Int) then (if (rd y146 (l2.length : Int)) = 77 then (if 0 ≤ (wrap64 ((l2.length : Int) + 1)) then (if (wrap64 ((l2.length : Int) + 1)) < (y146.length : Int) then (if (rd y146 (wrap64 ((l2.length : Int) + 1))) = 78 then (cubitlaw03_BitsPlaces.l0 k l2 y149 0) else (some false)) else (none)) else (none)) else (some false)) else (none)) else (some false)) else (some false)) else (some false)) else (some false))))))) else (none)) else (none)) = some r := by first | (rw [hy146]; with_reducible exact H) | (have H2_ := (Option.bind_some _ _).symm.trans H; rw [hy146]; with_reducible exact H2_) | (have H2_ := (Option.bind_some _ _).symm.trans H; with_reducible exact H2_) | with_reducible exact H | (rw [hy146]; exact H) | exact H
        have Ny146 := Aside0.mk hy146
        clear hy146
        by_cases c8 : 0 ≤ (l2.length : Int)
        · rw [if_pos c8] at H
          have c8b0 := eq_true c8
          have c8b1 : decide (0 ≤ (l2.length : Int)) = true := decide_eq_true c8
          clear c8
          by_cases c9 : (l2.length : Int) ≤ (y146.length : Int)
          · rw [if_pos c9] at H
            have c9b0 := eq_true c9
            have c9b1 : decide ((l2.length : Int) ≤ (y146.length : Int)) = true := decide_eq_true c9
            clear c9
            obtain ⟨y149, hy149⟩ : ∃ y_ : List Int, y_ = (y146.take ((l2.length : Int) : Int).toNat) := ⟨_, rfl⟩
            replace H : ((cubitref03_Pick.f k a0 l2).bind fun bt153 => ((bits_Pick.f k a0 y149).bind fun bt155 => ((cubitref03_Put.f k a0 l2 a1).bind fun bt157 => ((bits_Put.f k a0 y149 a1).bind fun bt159 => (if bt155.1 = bt153.1 then (if bt155.2 = bt153.2 then (if bt159.1 = bt157.1 then (if bt159.2 = bt157.2 then (if (l2.length : Int) < (y146.length : Int) then (if (rd y146 (l2.length : Int)) = 77 then (if 0 ≤ (wrap64 ((l2.length : Int) + 1)) then (if (wrap64 ((l2.length : Int) + 1)) < (y146.length : Int) then (if (rd y146 (wrap64 ((l2.length : Int) + 1))) = 78 then (cubitlaw03_BitsPlaces.l0 k l2 y149 0) else (some false)) else (none)) else (none)) else (some false)) else (none)) else (some false)) else (some false)) else (some false)) else (some false)))))) = some r := by first | (rw [hy149]; with_reducible exact H) | (have H2_ := (Option.bind_some _ _).symm.trans H; rw [hy149]; with_reducible exact H2_) | (have H2_ := (Option.bind_some _ _).symm.trans H; with_reducible exact H2_) | with_reducible exact H | (rw [hy149]; exact H) | exact H
            have Ny149 := Aside0.mk hy149
            clear hy149
            replace H := Option.bind_eq_some_iff.mp H
            obtain ⟨⟨t153, t154⟩, A100, H⟩ := H
            replace H : ((bits_Pick.f k a0 y149).bind fun bt155 => ((cubitref03_Put.f k a0 l2 a1).bind fun bt157 => ((bits_Put.f k a0 y149 a1).bind fun bt159 => (if bt155.1 = t153 then (if bt155.2 = t154 then (if bt159.1 = bt157.1 then (if bt159.2 = bt157.2 then (if (l2.length : Int) < (y146.length : Int) then (if (rd y146 (l2.length : Int)) = 77 then (if 0 ≤ (wrap64 ((l2.length : Int) + 1)) then (if (wrap64 ((l2.length : Int) + 1)) < (y146.length : Int) then (if (rd y146 (wrap64 ((l2.length : Int) + 1))) = 78 then (cubitlaw03_BitsPlaces.l0 k l2 y149 0) else (some false)) else (none)) else (none)) else (some false)) else (none)) else (some false)) else (some false)) else (some false)) else (some false))))) = some r := H
            have A10 := Aside0.mk A100
            clear A100
            replace H := Option.bind_eq_some_iff.mp H
            obtain ⟨⟨t155, t156⟩, A110, H⟩ := H
            replace H : ((cubitref03_Put.f k a0 l2 a1).bind fun bt157 => ((bits_Put.f k a0 y149 a1).bind fun bt159 => (if t155 = t153 then (if t156 = t154 then (if bt159.1 = bt157.1 then (if bt159.2 = bt157.2 then (if (l2.length : Int) < (y146.length : Int) then (if (rd y146 (l2.length : Int)) = 77 then (if 0 ≤ (wrap64 ((l2.length : Int) + 1)) then (if (wrap64 ((l2.length : Int) + 1)) < (y146.length : Int) then (if (rd y146 (wrap64 ((l2.length : Int) + 1))) = 78 then (cubitlaw03_BitsPlaces.l0 k l2 y149 0) else (some false)) else (none)) else (none)) else (some false)) else (none)) else (some false)) else (some false)) else (some false)) else (some false)))) = some r := H
            have A11 := Aside0.mk A110
            clear A110
            replace H := Option.bind_eq_some_iff.mp H
            obtain ⟨⟨t157, t158⟩, A120, H⟩ := H
            replace H : ((bits_Put.f k a0 y149 a1).bind fun bt159 => (if t155 = t153 then (if t156 = t154 then (if bt159.1 = t157 then (if bt159.2 = t158 then (if (l2.length : Int) < (y146.length : Int) then (if (rd y146 (l2.length : Int)) = 77 then (if 0 ≤ (wrap64 ((l2.length : Int) + 1)) then (if (wrap64 ((l2.length : Int) + 1)) < (y146.length : Int) then (if (rd y146 (wrap64 ((l2.length : Int) + 1))) = 78 then (cubitlaw03_BitsPlaces.l0 k l2 y149 0) else (some false)) else (none)) else (none)) else (some false)) else (none)) else (some false)) else (some false)) else (some false)) else (some false))) = some r := H
            have A12 := Aside0.mk A120
            clear A120
            replace H := Option.bind_eq_some_iff.mp H
            obtain ⟨⟨t159, t160⟩, A130, H⟩ := H
            replace H : (if t155 = t153 then (if t156 = t154 then (if t159 = t157 then (if t160 = t158 then (if (l2.length : Int) < (y146.length : Int) then (if (rd y146 (l2.length : Int)) = 77 then (if 0 ≤ (wrap64 ((l2.length : Int) + 1)) then (if (wrap64 ((l2.length : Int) + 1)) < (y146.length : Int) then (if (rd y146 (wrap64 ((l2.length : Int) + 1))) = 78 then (cubitlaw03_BitsPlaces.l0 k l2 y149 0) else (some false)) else (none)) else (none)) else (some false)) else (none)) else (some false)) else (some false)) else (some false)) else (some false)) = some r := H
            have A13 := Aside0.mk A130
            clear A130
            by_cases c14 : t155 = t153
            · rw [if_pos c14] at H
              have c14b0 : (t155 == t153) = true := beq_iff_eq.mpr c14
              have c14b1 : (t155 != t153) = false := bne_eq_false_iff_eq.mpr c14
              clear c14
              by_cases c15 : t156 = t154
              · rw [if_pos c15] at H
                have c15b0 : (t156 == t154) = true := beq_iff_eq.mpr c15
                have c15b1 : (t156 != t154) = false := bne_eq_false_iff_eq.mpr c15
                clear c15
                by_cases c16 : t159 = t157
                · rw [if_pos c16] at H
                  have c16b0 : (t159 == t157) = true := beq_iff_eq.mpr c16
                  have c16b1 : (t159 != t157) = false := bne_eq_false_iff_eq.mpr c16
                  clear c16
                  by_cases c17 : t160 = t158
                  · rw [if_pos c17] at H
                    have c17b0 : (t160 == t158) = true := beq_iff_eq.mpr c17
                    have c17b1 : (t160 != t158) = false := bne_eq_false_iff_eq.mpr c17
                    clear c17
                    by_cases c18 : (l2.length : Int) < (y146.length : Int)
                    · rw [if_pos c18] at H
                      have c18b0 : decide ((l2.length : Int) < (y146.length : Int)) = true := decide_eq_true c18
                      have c18b1 : decide (l2.length < y146.length) = true := decide_eq_true (Int.ofNat_lt.mp c18)
                      clear c18
                      by_cases c19 : (rd y146 (l2.length : Int)) = 77
                      · rw [if_pos c19] at H
                        have c19b0 : ((rd y146 (l2.length : Int)) == 77) = true := beq_iff_eq.mpr c19
                        have c19b1 : ((rd y146 (l2.length : Int)) != 77) = false := bne_eq_false_iff_eq.mpr c19
                        clear c19
                        obtain ⟨ji20, hji20⟩ : ∃ j_ : Int, (wrap64 ((l2.length : Int) + 1)) = j_ := ⟨_, rfl⟩
                        replace H : (if 0 ≤ (ji20) then (if (ji20) < (y146.length : Int) then (if (rd y146 (ji20)) = 78 then (cubitlaw03_BitsPlaces.l0 k l2 y149 0) else (some false)) else (none)) else (none)) = some r := by first | (rw [hji20] at H; exact H) | (simp only [hji20] at H ⊢; exact H)
                        (try rw [hji20] at A4)
                        (try rw [hji20] at A10)
                        (try rw [hji20] at A11)
                        (try rw [hji20] at A12)
                        (try rw [hji20] at A13)
                        have hji20w : (IntKind.i64.wrap ((l2.length : Int) + 1)) = ji20 := (i64_w _).trans hji20
                        by_cases c21 : 0 ≤ (ji20)
                        · rw [if_pos c21] at H
                          have c21b0 : decide (0 ≤ (ji20)) = true := decide_eq_true c21
                          clear c21
                          by_cases c22 : (ji20) < (y146.length : Int)
                          · rw [if_pos c22] at H
                            have c22b0 : decide ((ji20) < (y146.length : Int)) = true := decide_eq_true c22
                            clear c22
                            by_cases c23 : (rd y146 (ji20)) = 78
                            · rw [if_pos c23] at H
                              have c23b0 : ((rd y146 (ji20)) == 78) = true := beq_iff_eq.mpr c23
                              have c23b1 : ((rd y146 (ji20)) != 78) = false := bne_eq_false_iff_eq.mpr c23
                              clear c23
                              have H' := Aside0.mk H
                              clear H
                              go_enter Tryd.func3, Tryd.ntmps3
                              go_wp2_with (first | (go_at_call 9; (with_reducible refine (cubitlaw03_awake.calls k  true _ A4.out).mono ?_); rintro e w24 ⟨rfl, hb⟩; have n0_ := Aside0.mk (below_step (by repeat (first | (with_reducible first | exact HB.out | apply below_alloc | apply pw_below_drewN | apply below_drew1) | exact HB.out)) hb); clear HB; have HB := n0_; clear n0_; (try clear hb); (try clear hb2); (try clear hk); (try clear hi)) | ((with_reducible refine gate_dst (N := 20) rfl ?_); (try (refine gate_guard (by rfl) ?_; dsimp only)); refine Kd.R_lit (Kd.int .i64) _ 3 ?hg (N := 20) ?hd (xs := ([] : List Int)) (inner := []) (ok := fun _ => True) (okp := fun _ => True) ?hr ?hp (fun _ hk => hk) trivial (Below.refl _ _) (Nat.le_refl _) (by simp) ?_; (case hd => rfl); (case hg => rfl); (case hr => first | (go_simp; done) | (go_simp; rfl)); (case hp => exact (Reps.none _ _)); intro v138 w25 ho26 hb hg_ hnew_; clear hg_ hnew_; (first | rw [← Ny137.out] at ho26 | (simp only [Int.reduceToNat] at ho26; rw [← Ny137.out] at ho26)); have n0_ := Aside0.mk (Kd.R_lower ho26 (below_size (by repeat (first | (with_reducible first | exact HB.out | apply below_alloc | apply pw_below_drewN | apply below_drew1) | exact HB.out)))); have n1_ := Aside0.mk (below_step (by repeat (first | (with_reducible first | exact HB.out | apply below_alloc | apply pw_below_drewN | apply below_drew1) | exact HB.out)) hb); clear HB; have HO139 := n0_; have HB := n1_; clear n0_ n1_; clear hb ho26) | ((with_reducible refine gate_builtin (b := .append) (xs := #[.tmp 20, .tmp 21]) rfl ?_); (try (refine gate_guard (by rfl) ?_; dsimp only)); at_builtin; refine Kd.R_append_rows (Kd.int .i64) (w0 := w) w.heap.size rfl (.tmp 20) (.tmp 21) 23 3 (.int .i64 0) 8 rfl Tryd.underlying23 info3 rfl (by decide) (by omega) v138 y137 l2 _ _ _ (fun _ => True) (fun _ => False) rfl rfl ?aO ?aR (fun _ _ h => h) (fun _ h => h.elim) ?aF ?aB ?aS ?aL ?_; (case aR => repeat (first | exact (Kd.C_below HR2.out HB.out) | (with_reducible refine Kd.C_alloc ?_ _) | (with_reducible refine Kd.C_drewN ?_ _) | (with_reducible refine Kd.C_drew ?_))); (case aB => exact (by repeat (first | (with_reducible first | exact HB.out | apply below_alloc | apply pw_below_drewN | apply below_drew1) | exact HB.out))); (case aF => exact (fun _ _ => trivial)); (case aO => exact (by (with_reducible repeat (first | apply Kd.R_alloc | apply Kd.R_drewN | apply Kd.R_drew)); exact HO139.out)); (case aS => exact (below_size (by repeat (first | (with_reducible first | exact HB.out | apply below_alloc | apply pw_below_drewN | apply below_drew1) | exact HB.out)))); (case aL => have := LMc6.out; omega); intro v141 w27 ho hb hg hat; rw [← Ny140.out] at ho; have n0_ := Aside0.mk (hb); have n1_ := Aside0.mk (ho); clear HB; clear HO139; have HB := n0_; have HO142 := n1_; clear n0_ n1_; clear ho hb hg hat) | ((with_reducible refine gate_dst (N := 23) rfl ?_); (try (refine gate_guard (by rfl) ?_; dsimp only)); refine Kd.R_lit (Kd.int .i64) _ 3 ?hg (N := 23) ?hd (xs := ([77, 78] : List Int)) (inner := [.int .i64 77, .int .i64 78]) (ok := fun _ => True) (okp := fun _ => True) ?hr ?hp (fun _ hk => hk) trivial (Below.refl _ _) (Nat.le_refl _) (by simp) ?_; (case hd => rfl); (case hg => rfl); (case hr => first | (go_simp; done) | (go_simp; rfl)); (case hp => exact (Reps.one (show Kd.M (Kd.int .i64) _ _ _ 77 [.int .i64 77] from rfl) (Reps.one (show Kd.M (Kd.int .i64) _ _ _ 78 [.int .i64 78] from rfl) (Reps.none _ _)))); intro v144 w28 ho29 hb hg_ hnew_; clear hg_ hnew_; (first | rw [← Ny143.out] at ho29 | (simp only [Int.reduceToNat] at ho29; rw [← Ny143.out] at ho29)); have n0_ := Aside0.mk (Kd.R_elder' (by (with_reducible repeat (first | apply Kd.R_alloc | apply Kd.R_drewN | apply Kd.R_drew)); exact HO142.out) (Kd.R_base ho29) hb); have n1_ := Aside0.mk (Kd.R_lower (Kd.R_new' ho29 (Kd.R_lt (by (with_reducible repeat (first | apply Kd.R_alloc | apply Kd.R_drewN | apply Kd.R_drew)); exact HO142.out))) (below_size (by repeat (first | (with_reducible first | exact HB.out | apply below_alloc | apply pw_below_drewN | apply below_drew1) | exact HB.out)))); have n2_ := Aside0.mk (below_step (by repeat (first | (with_reducible first | exact HB.out | apply below_alloc | apply pw_below_drewN | apply below_drew1) | exact HB.out)) hb); clear HO142; clear HB; have HO142 := n0_; have HO145 := n1_; have HB := n2_; clear n0_ n1_ n2_; clear hb ho29; obtain ⟨Ao31, co31, eo31⟩ := Kd.R_slice HO145.out; subst eo31) | ((with_reducible refine gate_builtin (b := .append) (xs := #[.tmp 22, .tmp 23]) rfl ?_); (try (refine gate_guard (by rfl) ?_; dsimp only)); at_builtin; refine Kd.R_append_rows (Kd.int .i64) (w0 := w) w.heap.size rfl (.tmp 22) (.tmp 23) 23 3 (.int .i64 0) 8 rfl Tryd.underlying23 info3 rfl (by decide) (by omega) v141 y140 y143 _ _ _ (fun k_ => some k_ ≠ (.slice Ao31 y143.length co31 : Value).ownBlock) (fun _ => False) rfl rfl ?aO ?aR (fun _ _ h => h) (fun _ h => h.elim) ?aF ?aB ?aS ?aL ?_; (case aR => repeat (first | exact (Kd.R_reads' HO145.out).2.2 | (with_reducible refine Kd.C_alloc ?_ _) | (with_reducible refine Kd.C_drewN ?_ _) | (with_reducible refine Kd.C_drew ?_))); (case aB => exact (by repeat (first | (with_reducible first | exact HB.out | apply below_alloc | apply pw_below_drewN | apply below_drew1) | exact HB.out))); (case aF => exact (fun k_ hk => Kd.fresh' (Kd.R_lt (by (with_reducible repeat (first | apply Kd.R_alloc | apply Kd.R_drewN | apply Kd.R_drew)); exact HO145.out)) k_ hk)); (case aO => exact (by (with_reducible repeat (first | apply Kd.R_alloc | apply Kd.R_drewN | apply Kd.R_drew)); exact Kd.R_mono HO142.out (fun _ hk => hk.2))); (case aS => exact (below_size (by repeat (first | (with_reducible first | exact HB.out | apply below_alloc | apply pw_below_drewN | apply below_drew1) | exact HB.out)))); (case aL => have := LMc7.out; omega); intro v147 w30 ho hb hg hat; rw [← Ny146.out] at ho; have n0_ := Aside0.mk (Kd.R_after (ok := (fun _ => True)) (by (with_reducible repeat (first | apply Kd.R_alloc | apply Kd.R_drewN | apply Kd.R_drew)); exact HO145.out) hg hat); have n1_ := Aside0.mk (hb); have n2_ := Aside0.mk (ho); clear HO145; clear HB; clear HO142; have HO145 := n0_; have HB := n1_; have HO148 := n2_; clear n0_ n1_ n2_; clear ho hb hg hat; obtain ⟨Ao33, co33, eo33⟩ := Kd.R_slice HO148.out; subst eo33; have q32 : ((l2.length : Int) : Int) ≤ ((y146.length : Int) : Int) := of_decide_eq_true (by first | (with_reducible assumption) | assumption); obtain ⟨i032, hi032, _, hsz32, _⟩ := info_parts info3; have hroom32 : y146.length ≤ co33 := (Kd.R_reads' HO148.out).2.1; have hC32 : Kd.C (Kd.int .i64) _ Ao33 y146.length y146 := (Kd.R_reads' HO148.out).2.2; have hcut32 := cut_to (P := Tryd.prog) 23 3 .i64 Tryd.underlying23 hi032 Ao33 y146.length co33 (l2.length : Int) (of_decide_eq_true (by first | (with_reducible assumption) | assumption)) q32 hroom32; have hr32 := Kd.C_take (m := ((l2.length : Int) : Int).toNat) hC32 (by omega); have hy32 : y149.length = ((l2.length : Int) : Int).toNat := (by rw [Ny149.out, List.length_take]; omega); rw [← Ny149.out] at hr32; rw [← hy32] at hcut32; have HR152 := Aside0.mk hr32; have HC152 := Aside0.mk (show y149.length ≤ co33 from by omega); clear hr32 hC32 hroom32 hi032 hsz32; have KY32 := Aside0.mk hy32; clear hy32; have KL32 := Aside0.mk (show ((l2.length : Int) : Int).toNat ≤ y146.length from by omega); replace q32 := eq_true q32) | (go_at_call 10; (with_reducible refine (cubitref03_Pick.calls k a0 _ _ l2 t153 t154 _ ?side1 ?side2 A10.out).mono ?_); (case side1 => repeat (first | exact (Kd.C_below HR2.out HB.out) | (with_reducible refine Kd.C_alloc ?_ _) | (with_reducible refine Kd.C_drewN ?_ _) | (with_reducible refine Kd.C_drew ?_))); (case side2 => exact HC2.out); rintro e w' ⟨rfl, ⟨nd, rfl⟩⟩; (try first | exact ⟨rfl, _, World.drewN_drewN _ _ _⟩ | exact ⟨rfl, _, Eq.trans (World.drewN_drewN _ _ _) (congrArg (World.drewN _) (Nat.add_assoc _ _ _))⟩)) | (go_at_call 11; (with_reducible refine (bits_Pick.calls k a0 _ _ y149 t155 t156 _ ?side1 ?side2 A11.out).mono ?_); (case side1 => repeat (first | exact (by repeat (first | (with_reducible exact HR152.out) | (with_reducible refine Kd.C_alloc ?_ _) | (with_reducible refine Kd.C_drewN ?_ _) | (with_reducible refine Kd.C_drew ?_) | exact HR152.out)) | (with_reducible refine Kd.C_alloc ?_ _) | (with_reducible refine Kd.C_drewN ?_ _) | (with_reducible refine Kd.C_drew ?_))); (case side2 => exact HC152.out); rintro e w' ⟨rfl, ⟨nd, rfl⟩⟩; (try first | exact ⟨rfl, _, World.drewN_drewN _ _ _⟩ | exact ⟨rfl, _, Eq.trans (World.drewN_drewN _ _ _) (congrArg (World.drewN _) (Nat.add_assoc _ _ _))⟩)) | (go_at_call 12; (with_reducible refine (cubitref03_Put.calls k a0 _ _ l2 a1 t157 t158 _ ?side1 ?side2 A12.out).mono ?_); (case side1 => repeat (first | exact (Kd.C_below HR2.out (by repeat (first | (with_reducible first | exact HB.out | apply below_alloc | apply pw_below_drewN | apply below_drew1) | exact HB.out))) | (with_reducible refine Kd.C_alloc ?_ _) | (with_reducible refine Kd.C_drewN ?_ _) | (with_reducible refine Kd.C_drew ?_))); (case side2 => exact HC2.out); rintro e w' ⟨rfl, ⟨nd, rfl⟩⟩; (try first | exact ⟨rfl, _, World.drewN_drewN _ _ _⟩ | exact ⟨rfl, _, Eq.trans (World.drewN_drewN _ _ _) (congrArg (World.drewN _) (Nat.add_assoc _ _ _))⟩)) | (go_at_call 13; (with_reducible refine (bits_Put.calls k a0 _ _ y149 a1 t159 t160 _ ?side1 ?side2 A13.out).mono ?_); (case side1 => repeat (first | exact (by repeat (first | (with_reducible exact HR152.out) | (with_reducible refine Kd.C_alloc ?_ _) | (with_reducible refine Kd.C_drewN ?_ _) | (with_reducible refine Kd.C_drew ?_) | exact HR152.out)) | (with_reducible refine Kd.C_alloc ?_ _) | (with_reducible refine Kd.C_drewN ?_ _) | (with_reducible refine Kd.C_drew ?_))); (case side2 => exact HC152.out); rintro e w' ⟨rfl, ⟨nd, rfl⟩⟩; (try first | exact ⟨rfl, _, World.drewN_drewN _ _ _⟩ | exact ⟨rfl, _, Eq.trans (World.drewN_drewN _ _ _) (congrArg (World.drewN _) (Nat.add_assoc _ _ _))⟩); have p161 : 0 ≤ ((l2.length : Int) : Int) := of_decide_eq_true (by first | (with_reducible assumption) | assumption); have q161 : (l2.length : Int) < (y146.length : Int) := of_decide_eq_true (by first | (with_reducible assumption) | assumption); obtain ⟨ad161, e161, hx161_0⟩ := Kd.at_int (Kd.R_reads' HO148.out).2.2 (l2.length : Int) p161 q161; cases e161; (try simp only [Go.IntWalk.toNatUp] at hx161_0); replace p161 := eq_true p161; replace q161 := eq_true q161; have p162 : 0 ≤ ((ji20) : Int) := of_decide_eq_true (by first | (with_reducible assumption) | assumption); have q162 : (ji20) < (y146.length : Int) := of_decide_eq_true (by first | (with_reducible assumption) | assumption); obtain ⟨ad162, e162, hx162_0⟩ := Kd.at_int (Kd.R_reads' HO148.out).2.2 (ji20) p162 q162; obtain rfl : ad161 = ad162 := (by injection e162); replace p162 := eq_true p162; replace q162 := eq_true q162))
                              repeat (go_quiet (first | (go_at_call 9; (with_reducible refine (cubitlaw03_awake.calls k  true _ A4.out).mono ?_); rintro e w24 ⟨rfl, hb⟩; have n0_ := Aside0.mk (below_step (by repeat (first | (with_reducible first | exact HB.out | apply below_alloc | apply pw_below_drewN | apply below_drew1) | exact HB.out)) hb); clear HB; have HB := n0_; clear n0_; (try clear hb); (try clear hb2); (try clear hk); (try clear hi)) | ((with_reducible refine gate_dst (N := 20) rfl ?_); (try (refine gate_guard (by rfl) ?_; dsimp only)); refine Kd.R_lit (Kd.int .i64) _ 3 ?hg (N := 20) ?hd (xs := ([] : List Int)) (inner := []) (ok := fun _ => True) (okp := fun _ => True) ?hr ?hp (fun _ hk => hk) trivial (Below.refl _ _) (Nat.le_refl _) (by simp) ?_; (case hd => rfl); (case hg => rfl); (case hr => first | (go_simp; done) | (go_simp; rfl)); (case hp => exact (Reps.none _ _)); intro v138 w25 ho26 hb hg_ hnew_; clear hg_ hnew_; (first | rw [← Ny137.out] at ho26 | (simp only [Int.reduceToNat] at ho26; rw [← Ny137.out] at ho26)); have n0_ := Aside0.mk (Kd.R_lower ho26 (below_size (by repeat (first | (with_reducible first | exact HB.out | apply below_alloc | apply pw_below_drewN | apply below_drew1) | exact HB.out)))); have n1_ := Aside0.mk (below_step (by repeat (first | (with_reducible first | exact HB.out | apply below_alloc | apply pw_below_drewN | apply below_drew1) | exact HB.out)) hb); clear HB; have HO139 := n0_; have HB := n1_; clear n0_ n1_; clear hb ho26) | ((with_reducible refine gate_builtin (b := .append) (xs := #[.tmp 20, .tmp 21]) rfl ?_); (try (refine gate_guard (by rfl) ?_; dsimp only)); at_builtin; refine Kd.R_append_rows (Kd.int .i64) (w0 := w) w.heap.size rfl (.tmp 20) (.tmp 21) 23 3 (.int .i64 0) 8 rfl Tryd.underlying23 info3 rfl (by decide) (by omega) v138 y137 l2 _ _ _ (fun _ => True) (fun _ => False) rfl rfl ?aO ?aR (fun _ _ h => h) (fun _ h => h.elim) ?aF ?aB ?aS ?aL ?_; (case aR => repeat (first | exact (Kd.C_below HR2.out HB.out) | (with_reducible refine Kd.C_alloc ?_ _) | (with_reducible refine Kd.C_drewN ?_ _) | (with_reducible refine Kd.C_drew ?_))); (case aB => exact (by repeat (first | (with_reducible first | exact HB.out | apply below_alloc | apply pw_below_drewN | apply below_drew1) | exact HB.out))); (case aF => exact (fun _ _ => trivial)); (case aO => exact (by (with_reducible repeat (first | apply Kd.R_alloc | apply Kd.R_drewN | apply Kd.R_drew)); exact HO139.out)); (case aS => exact (below_size (by repeat (first | (with_reducible first | exact HB.out | apply below_alloc | apply pw_below_drewN | apply below_drew1) | exact HB.out)))); (case aL => have := LMc6.out; omega); intro v141 w27 ho hb hg hat; rw [← Ny140.out] at ho; have n0_ := Aside0.mk (hb); have n1_ := Aside0.mk (ho); clear HB; clear HO139; have HB := n0_; have HO142 := n1_; clear n0_ n1_; clear ho hb hg hat) | ((with_reducible refine gate_dst (N := 23) rfl ?_); (try (refine gate_guard (by rfl) ?_; dsimp only)); refine Kd.R_lit (Kd.int .i64) _ 3 ?hg (N := 23) ?hd (xs := ([77, 78] : List Int)) (inner := [.int .i64 77, .int .i64 78]) (ok := fun _ => True) (okp := fun _ => True) ?hr ?hp (fun _ hk => hk) trivial (Below.refl _ _) (Nat.le_refl _) (by simp) ?_; (case hd => rfl); (case hg => rfl); (case hr => first | (go_simp; done) | (go_simp; rfl)); (case hp => exact (Reps.one (show Kd.M (Kd.int .i64) _ _ _ 77 [.int .i64 77] from rfl) (Reps.one (show Kd.M (Kd.int .i64) _ _ _ 78 [.int .i64 78] from rfl) (Reps.none _ _)))); intro v144 w28 ho29 hb hg_ hnew_; clear hg_ hnew_; (first | rw [← Ny143.out] at ho29 | (simp only [Int.reduceToNat] at ho29; rw [← Ny143.out] at ho29)); have n0_ := Aside0.mk (Kd.R_elder' (by (with_reducible repeat (first | apply Kd.R_alloc | apply Kd.R_drewN | apply Kd.R_drew)); exact HO142.out) (Kd.R_base ho29) hb); have n1_ := Aside0.mk (Kd.R_lower (Kd.R_new' ho29 (Kd.R_lt (by (with_reducible repeat (first | apply Kd.R_alloc | apply Kd.R_drewN | apply Kd.R_drew)); exact HO142.out))) (below_size (by repeat (first | (with_reducible first | exact HB.out | apply below_alloc | apply pw_below_drewN | apply below_drew1) | exact HB.out)))); have n2_ := Aside0.mk (below_step (by repeat (first | (with_reducible first | exact HB.out | apply below_alloc | apply pw_below_drewN | apply below_drew1) | exact HB.out)) hb); clear HO142; clear HB; have HO142 := n0_; have HO145 := n1_; have HB := n2_; clear n0_ n1_ n2_; clear hb ho29; obtain ⟨Ao31, co31, eo31⟩ := Kd.R_slice HO145.out; subst eo31) | ((with_reducible refine gate_builtin (b := .append) (xs := #[.tmp 22, .tmp 23]) rfl ?_); (try (refine gate_guard (by rfl) ?_; dsimp only)); at_builtin; refine Kd.R_append_rows (Kd.int .i64) (w0 := w) w.heap.size rfl (.tmp 22) (.tmp 23) 23 3 (.int .i64 0) 8 rfl Tryd.underlying23 info3 rfl (by decide) (by omega) v141 y140 y143 _ _ _ (fun k_ => some k_ ≠ (.slice Ao31 y143.length co31 : Value).ownBlock) (fun _ => False) rfl rfl ?aO ?aR (fun _ _ h => h) (fun _ h => h.elim) ?aF ?aB ?aS ?aL ?_; (case aR => repeat (first | exact (Kd.R_reads' HO145.out).2.2 | (with_reducible refine Kd.C_alloc ?_ _) | (with_reducible refine Kd.C_drewN ?_ _) | (with_reducible refine Kd.C_drew ?_))); (case aB => exact (by repeat (first | (with_reducible first | exact HB.out | apply below_alloc | apply pw_below_drewN | apply below_drew1) | exact HB.out))); (case aF => exact (fun k_ hk => Kd.fresh' (Kd.R_lt (by (with_reducible repeat (first | apply Kd.R_alloc | apply Kd.R_drewN | apply Kd.R_drew)); exact HO145.out)) k_ hk)); (case aO => exact (by (with_reducible repeat (first | apply Kd.R_alloc | apply Kd.R_drewN | apply Kd.R_drew)); exact Kd.R_mono HO142.out (fun _ hk => hk.2))); (case aS => exact (below_size (by repeat (first | (with_reducible first | exact HB.out | apply below_alloc | apply pw_below_drewN | apply below_drew1) | exact HB.out)))); (case aL => have := LMc7.out; omega); intro v147 w30 ho hb hg hat; rw [← Ny146.out] at ho; have n0_ := Aside0.mk (Kd.R_after (ok := (fun _ => True)) (by (with_reducible repeat (first | apply Kd.R_alloc | apply Kd.R_drewN | apply Kd.R_drew)); exact HO145.out) hg hat); have n1_ := Aside0.mk (hb); have n2_ := Aside0.mk (ho); clear HO145; clear HB; clear HO142; have HO145 := n0_; have HB := n1_; have HO148 := n2_; clear n0_ n1_ n2_; clear ho hb hg hat; obtain ⟨Ao33, co33, eo33⟩ := Kd.R_slice HO148.out; subst eo33; have q32 : ((l2.length : Int) : Int) ≤ ((y146.length : Int) : Int) := of_decide_eq_true (by first | (with_reducible assumption) | assumption); obtain ⟨i032, hi032, _, hsz32, _⟩ := info_parts info3; have hroom32 : y146.length ≤ co33 := (Kd.R_reads' HO148.out).2.1; have hC32 : Kd.C (Kd.int .i64) _ Ao33 y146.length y146 := (Kd.R_reads' HO148.out).2.2; have hcut32 := cut_to (P := Tryd.prog) 23 3 .i64 Tryd.underlying23 hi032 Ao33 y146.length co33 (l2.length : Int) (of_decide_eq_true (by first | (with_reducible assumption) | assumption)) q32 hroom32; have hr32 := Kd.C_take (m := ((l2.length : Int) : Int).toNat) hC32 (by omega); have hy32 : y149.length = ((l2.length : Int) : Int).toNat := (by rw [Ny149.out, List.length_take]; omega); rw [← Ny149.out] at hr32; rw [← hy32] at hcut32; have HR152 := Aside0.mk hr32; have HC152 := Aside0.mk (show y149.length ≤ co33 from by omega); clear hr32 hC32 hroom32 hi032 hsz32; have KY32 := Aside0.mk hy32; clear hy32; have KL32 := Aside0.mk (show ((l2.length : Int) : Int).toNat ≤ y146.length from by omega); replace q32 := eq_true q32) | (go_at_call 10; (with_reducible refine (cubitref03_Pick.calls k a0 _ _ l2 t153 t154 _ ?side1 ?side2 A10.out).mono ?_); (case side1 => repeat (first | exact (Kd.C_below HR2.out HB.out) | (with_reducible refine Kd.C_alloc ?_ _) | (with_reducible refine Kd.C_drewN ?_ _) | (with_reducible refine Kd.C_drew ?_))); (case side2 => exact HC2.out); rintro e w' ⟨rfl, ⟨nd, rfl⟩⟩; (try first | exact ⟨rfl, _, World.drewN_drewN _ _ _⟩ | exact ⟨rfl, _, Eq.trans (World.drewN_drewN _ _ _) (congrArg (World.drewN _) (Nat.add_assoc _ _ _))⟩)) | (go_at_call 11; (with_reducible refine (bits_Pick.calls k a0 _ _ y149 t155 t156 _ ?side1 ?side2 A11.out).mono ?_); (case side1 => repeat (first | exact (by repeat (first | (with_reducible exact HR152.out) | (with_reducible refine Kd.C_alloc ?_ _) | (with_reducible refine Kd.C_drewN ?_ _) | (with_reducible refine Kd.C_drew ?_) | exact HR152.out)) | (with_reducible refine Kd.C_alloc ?_ _) | (with_reducible refine Kd.C_drewN ?_ _) | (with_reducible refine Kd.C_drew ?_))); (case side2 => exact HC152.out); rintro e w' ⟨rfl, ⟨nd, rfl⟩⟩; (try first | exact ⟨rfl, _, World.drewN_drewN _ _ _⟩ | exact ⟨rfl, _, Eq.trans (World.drewN_drewN _ _ _) (congrArg (World.drewN _) (Nat.add_assoc _ _ _))⟩)) | (go_at_call 12; (with_reducible refine (cubitref03_Put.calls k a0 _ _ l2 a1 t157 t158 _ ?side1 ?side2 A12.out).mono ?_); (case side1 => repeat (first | exact (Kd.C_below HR2.out (by repeat (first | (with_reducible first | exact HB.out | apply below_alloc | apply pw_below_drewN | apply below_drew1) | exact HB.out))) | (with_reducible refine Kd.C_alloc ?_ _) | (with_reducible refine Kd.C_drewN ?_ _) | (with_reducible refine Kd.C_drew ?_))); (case side2 => exact HC2.out); rintro e w' ⟨rfl, ⟨nd, rfl⟩⟩; (try first | exact ⟨rfl, _, World.drewN_drewN _ _ _⟩ | exact ⟨rfl, _, Eq.trans (World.drewN_drewN _ _ _) (congrArg (World.drewN _) (Nat.add_assoc _ _ _))⟩)) | (go_at_call 13; (with_reducible refine (bits_Put.calls k a0 _ _ y149 a1 t159 t160 _ ?side1 ?side2 A13.out).mono ?_); (case side1 => repeat (first | exact (by repeat (first | (with_reducible exact HR152.out) | (with_reducible refine Kd.C_alloc ?_ _) | (with_reducible refine Kd.C_drewN ?_ _) | (with_reducible refine Kd.C_drew ?_) | exact HR152.out)) | (with_reducible refine Kd.C_alloc ?_ _) | (with_reducible refine Kd.C_drewN ?_ _) | (with_reducible refine Kd.C_drew ?_))); (case side2 => exact HC152.out); rintro e w' ⟨rfl, ⟨nd, rfl⟩⟩; (try first | exact ⟨rfl, _, World.drewN_drewN _ _ _⟩ | exact ⟨rfl, _, Eq.trans (World.drewN_drewN _ _ _) (congrArg (World.drewN _) (Nat.add_assoc _ _ _))⟩); have p161 : 0 ≤ ((l2.length : Int) : Int) := of_decide_eq_true (by first | (with_reducible assumption) | assumption); have q161 : (l2.length : Int) < (y146.length : Int) := of_decide_eq_true (by first | (with_reducible assumption) | assumption); obtain ⟨ad161, e161, hx161_0⟩ := Kd.at_int (Kd.R_reads' HO148.out).2.2 (l2.length : Int) p161 q161; cases e161; (try simp only [Go.IntWalk.toNatUp] at hx161_0); replace p161 := eq_true p161; replace q161 := eq_true q161; have p162 : 0 ≤ ((ji20) : Int) := of_decide_eq_true (by first | (with_reducible assumption) | assumption); have q162 : (ji20) < (y146.length : Int) := of_decide_eq_true (by first | (with_reducible assumption) | assumption); obtain ⟨ad162, e162, hx162_0⟩ := Kd.at_int (Kd.R_reads' HO148.out).2.2 (ji20) p162 q162; obtain rfl : ad161 = ad162 := (by injection e162); replace p162 := eq_true p162; replace q162 := eq_true q162)); try go_wp2_with (first | (go_at_call 9; (with_reducible refine (cubitlaw03_awake.calls k  true _ A4.out).mono ?_); rintro e w24 ⟨rfl, hb⟩; have n0_ := Aside0.mk (below_step (by repeat (first | (with_reducible first | exact HB.out | apply below_alloc | apply pw_below_drewN | apply below_drew1) | exact HB.out)) hb); clear HB; have HB := n0_; clear n0_; (try clear hb); (try clear hb2); (try clear hk); (try clear hi)) | ((with_reducible refine gate_dst (N := 20) rfl ?_); (try (refine gate_guard (by rfl) ?_; dsimp only)); refine Kd.R_lit (Kd.int .i64) _ 3 ?hg (N := 20) ?hd (xs := ([] : List Int)) (inner := []) (ok := fun _ => True) (okp := fun _ => True) ?hr ?hp (fun _ hk => hk) trivial (Below.refl _ _) (Nat.le_refl _) (by simp) ?_; (case hd => rfl); (case hg => rfl); (case hr => first | (go_simp; done) | (go_simp; rfl)); (case hp => exact (Reps.none _ _)); intro v138 w25 ho26 hb hg_ hnew_; clear hg_ hnew_; (first | rw [← Ny137.out] at ho26 | (simp only [Int.reduceToNat] at ho26; rw [← Ny137.out] at ho26)); have n0_ := Aside0.mk (Kd.R_lower ho26 (below_size (by repeat (first | (with_reducible first | exact HB.out | apply below_alloc | apply pw_below_drewN | apply below_drew1) | exact HB.out)))); have n1_ := Aside0.mk (below_step (by repeat (first | (with_reducible first | exact HB.out | apply below_alloc | apply pw_below_drewN | apply below_drew1) | exact HB.out)) hb); clear HB; have HO139 := n0_; have HB := n1_; clear n0_ n1_; clear hb ho26) | ((with_reducible refine gate_builtin (b := .append) (xs := #[.tmp 20, .tmp 21]) rfl ?_); (try (refine gate_guard (by rfl) ?_; dsimp only)); at_builtin; refine Kd.R_append_rows (Kd.int .i64) (w0 := w) w.heap.size rfl (.tmp 20) (.tmp 21) 23 3 (.int .i64 0) 8 rfl Tryd.underlying23 info3 rfl (by decide) (by omega) v138 y137 l2 _ _ _ (fun _ => True) (fun _ => False) rfl rfl ?aO ?aR (fun _ _ h => h) (fun _ h => h.elim) ?aF ?aB ?aS ?aL ?_; (case aR => repeat (first | exact (Kd.C_below HR2.out HB.out) | (with_reducible refine Kd.C_alloc ?_ _) | (with_reducible refine Kd.C_drewN ?_ _) | (with_reducible refine Kd.C_drew ?_))); (case aB => exact (by repeat (first | (with_reducible first | exact HB.out | apply below_alloc | apply pw_below_drewN | apply below_drew1) | exact HB.out))); (case aF => exact (fun _ _ => trivial)); (case aO => exact (by (with_reducible repeat (first | apply Kd.R_alloc | apply Kd.R_drewN | apply Kd.R_drew)); exact HO139.out)); (case aS => exact (below_size (by repeat (first | (with_reducible first | exact HB.out | apply below_alloc | apply pw_below_drewN | apply below_drew1) | exact HB.out)))); (case aL => have := LMc6.out; omega); intro v141 w27 ho hb hg hat; rw [← Ny140.out] at ho; have n0_ := Aside0.mk (hb); have n1_ := Aside0.mk (ho); clear HB; clear HO139; have HB := n0_; have HO142 := n1_; clear n0_ n1_; clear ho hb hg hat) | ((with_reducible refine gate_dst (N := 23) rfl ?_); (try (refine gate_guard (by rfl) ?_; dsimp only)); refine Kd.R_lit (Kd.int .i64) _ 3 ?hg (N := 23) ?hd (xs := ([77, 78] : List Int)) (inner := [.int .i64 77, .int .i64 78]) (ok := fun _ => True) (okp := fun _ => True) ?hr ?hp (fun _ hk => hk) trivial (Below.refl _ _) (Nat.le_refl _) (by simp) ?_; (case hd => rfl); (case hg => rfl); (case hr => first | (go_simp; done) | (go_simp; rfl)); (case hp => exact (Reps.one (show Kd.M (Kd.int .i64) _ _ _ 77 [.int .i64 77] from rfl) (Reps.one (show Kd.M (Kd.int .i64) _ _ _ 78 [.int .i64 78] from rfl) (Reps.none _ _)))); intro v144 w28 ho29 hb hg_ hnew_; clear hg_ hnew_; (first | rw [← Ny143.out] at ho29 | (simp only [Int.reduceToNat] at ho29; rw [← Ny143.out] at ho29)); have n0_ := Aside0.mk (Kd.R_elder' (by (with_reducible repeat (first | apply Kd.R_alloc | apply Kd.R_drewN | apply Kd.R_drew)); exact HO142.out) (Kd.R_base ho29) hb); have n1_ := Aside0.mk (Kd.R_lower (Kd.R_new' ho29 (Kd.R_lt (by (with_reducible repeat (first | apply Kd.R_alloc | apply Kd.R_drewN | apply Kd.R_drew)); exact HO142.out))) (below_size (by repeat (first | (with_reducible first | exact HB.out | apply below_alloc | apply pw_below_drewN | apply below_drew1) | exact HB.out)))); have n2_ := Aside0.mk (below_step (by repeat (first | (with_reducible first | exact HB.out | apply below_alloc | apply pw_below_drewN | apply below_drew1) | exact HB.out)) hb); clear HO142; clear HB; have HO142 := n0_; have HO145 := n1_; have HB := n2_; clear n0_ n1_ n2_; clear hb ho29; obtain ⟨Ao31, co31, eo31⟩ := Kd.R_slice HO145.out; subst eo31) | ((with_reducible refine gate_builtin (b := .append) (xs := #[.tmp 22, .tmp 23]) rfl ?_); (try (refine gate_guard (by rfl) ?_; dsimp only)); at_builtin; refine Kd.R_append_rows (Kd.int .i64) (w0 := w) w.heap.size rfl (.tmp 22) (.tmp 23) 23 3 (.int .i64 0) 8 rfl Tryd.underlying23 info3 rfl (by decide) (by omega) v141 y140 y143 _ _ _ (fun k_ => some k_ ≠ (.slice Ao31 y143.length co31 : Value).ownBlock) (fun _ => False) rfl rfl ?aO ?aR (fun _ _ h => h) (fun _ h => h.elim) ?aF ?aB ?aS ?aL ?_; (case aR => repeat (first | exact (Kd.R_reads' HO145.out).2.2 | (with_reducible refine Kd.C_alloc ?_ _) | (with_reducible refine Kd.C_drewN ?_ _) | (with_reducible refine Kd.C_drew ?_))); (case aB => exact (by repeat (first | (with_reducible first | exact HB.out | apply below_alloc | apply pw_below_drewN | apply below_drew1) | exact HB.out))); (case aF => exact (fun k_ hk => Kd.fresh' (Kd.R_lt (by (with_reducible repeat (first | apply Kd.R_alloc | apply Kd.R_drewN | apply Kd.R_drew)); exact HO145.out)) k_ hk)); (case aO => exact (by (with_reducible repeat (first | apply Kd.R_alloc | apply Kd.R_drewN | apply Kd.R_drew)); exact Kd.R_mono HO142.out (fun _ hk => hk.2))); (case aS => exact (below_size (by repeat (first | (with_reducible first | exact HB.out | apply below_alloc | apply pw_below_drewN | apply below_drew1) | exact HB.out)))); (case aL => have := LMc7.out; omega); intro v147 w30 ho hb hg hat; rw [← Ny146.out] at ho; have n0_ := Aside0.mk (Kd.R_after (ok := (fun _ => True)) (by (with_reducible repeat (first | apply Kd.R_alloc | apply Kd.R_drewN | apply Kd.R_drew)); exact HO145.out) hg hat); have n1_ := Aside0.mk (hb); have n2_ := Aside0.mk (ho); clear HO145; clear HB; clear HO142; have HO145 := n0_; have HB := n1_; have HO148 := n2_; clear n0_ n1_ n2_; clear ho hb hg hat; obtain ⟨Ao33, co33, eo33⟩ := Kd.R_slice HO148.out; subst eo33; have q32 : ((l2.length : Int) : Int) ≤ ((y146.length : Int) : Int) := of_decide_eq_true (by first | (with_reducible assumption) | assumption); obtain ⟨i032, hi032, _, hsz32, _⟩ := info_parts info3; have hroom32 : y146.length ≤ co33 := (Kd.R_reads' HO148.out).2.1; have hC32 : Kd.C (Kd.int .i64) _ Ao33 y146.length y146 := (Kd.R_reads' HO148.out).2.2; have hcut32 := cut_to (P := Tryd.prog) 23 3 .i64 Tryd.underlying23 hi032 Ao33 y146.length co33 (l2.length : Int) (of_decide_eq_true (by first | (with_reducible assumption) | assumption)) q32 hroom32; have hr32 := Kd.C_take (m := ((l2.length : Int) : Int).toNat) hC32 (by omega); have hy32 : y149.length = ((l2.length : Int) : Int).toNat := (by rw [Ny149.out, List.length_take]; omega); rw [← Ny149.out] at hr32; rw [← hy32] at hcut32; have HR152 := Aside0.mk hr32; have HC152 := Aside0.mk (show y149.length ≤ co33 from by omega); clear hr32 hC32 hroom32 hi032 hsz32; have KY32 := Aside0.mk hy32; clear hy32; have KL32 := Aside0.mk (show ((l2.length : Int) : Int).toNat ≤ y146.length from by omega); replace q32 := eq_true q32) | (go_at_call 10; (with_reducible refine (cubitref03_Pick.calls k a0 _ _ l2 t153 t154 _ ?side1 ?side2 A10.out).mono ?_); (case side1 => repeat (first | exact (Kd.C_below HR2.out HB.out) | (with_reducible refine Kd.C_alloc ?_ _) | (with_reducible refine Kd.C_drewN ?_ _) | (with_reducible refine Kd.C_drew ?_))); (case side2 => exact HC2.out); rintro e w' ⟨rfl, ⟨nd, rfl⟩⟩; (try first | exact ⟨rfl, _, World.drewN_drewN _ _ _⟩ | exact ⟨rfl, _, Eq.trans (World.drewN_drewN _ _ _) (congrArg (World.drewN _) (Nat.add_assoc _ _ _))⟩)) | (go_at_call 11; (with_reducible refine (bits_Pick.calls k a0 _ _ y149 t155 t156 _ ?side1 ?side2 A11.out).mono ?_); (case side1 => repeat (first | exact (by repeat (first | (with_reducible exact HR152.out) | (with_reducible refine Kd.C_alloc ?_ _) | (with_reducible refine Kd.C_drewN ?_ _) | (with_reducible refine Kd.C_drew ?_) | exact HR152.out)) | (with_reducible refine Kd.C_alloc ?_ _) | (with_reducible refine Kd.C_drewN ?_ _) | (with_reducible refine Kd.C_drew ?_))); (case side2 => exact HC152.out); rintro e w' ⟨rfl, ⟨nd, rfl⟩⟩; (try first | exact ⟨rfl, _, World.drewN_drewN _ _ _⟩ | exact ⟨rfl, _, Eq.trans (World.drewN_drewN _ _ _) (congrArg (World.drewN _) (Nat.add_assoc _ _ _))⟩)) | (go_at_call 12; (with_reducible refine (cubitref03_Put.calls k a0 _ _ l2 a1 t157 t158 _ ?side1 ?side2 A12.out).mono ?_); (case side1 => repeat (first | exact (Kd.C_below HR2.out (by repeat (first | (with_reducible first | exact HB.out | apply below_alloc | apply pw_below_drewN | apply below_drew1) | exact HB.out))) | (with_reducible refine Kd.C_alloc ?_ _) | (with_reducible refine Kd.C_drewN ?_ _) | (with_reducible refine Kd.C_drew ?_))); (case side2 => exact HC2.out); rintro e w' ⟨rfl, ⟨nd, rfl⟩⟩; (try first | exact ⟨rfl, _, World.drewN_drewN _ _ _⟩ | exact ⟨rfl, _, Eq.trans (World.drewN_drewN _ _ _) (congrArg (World.drewN _) (Nat.add_assoc _ _ _))⟩)) | (go_at_call 13; (with_reducible refine (bits_Put.calls k a0 _ _ y149 a1 t159 t160 _ ?side1 ?side2 A13.out).mono ?_); (case side1 => repeat (first | exact (by repeat (first | (with_reducible exact HR152.out) | (with_reducible refine Kd.C_alloc ?_ _) | (with_reducible refine Kd.C_drewN ?_ _) | (with_reducible refine Kd.C_drew ?_) | exact HR152.out)) | (with_reducible refine Kd.C_alloc ?_ _) | (with_reducible refine Kd.C_drewN ?_ _) | (with_reducible refine Kd.C_drew ?_))); (case side2 => exact HC152.out); rintro e w' ⟨rfl, ⟨nd, rfl⟩⟩; (try first | exact ⟨rfl, _, World.drewN_drewN _ _ _⟩ | exact ⟨rfl, _, Eq.trans (World.drewN_drewN _ _ _) (congrArg (World.drewN _) (Nat.add_assoc _ _ _))⟩); have p161 : 0 ≤ ((l2.length : Int) : Int) := of_decide_eq_true (by first | (with_reducible assumption) | assumption); have q161 : (l2.length : Int) < (y146.length : Int) := of_decide_eq_true (by first | (with_reducible assumption) | assumption); obtain ⟨ad161, e161, hx161_0⟩ := Kd.at_int (Kd.R_reads' HO148.out).2.2 (l2.length : Int) p161 q161; cases e161; (try simp only [Go.IntWalk.toNatUp] at hx161_0); replace p161 := eq_true p161; replace q161 := eq_true q161; have p162 : 0 ≤ ((ji20) : Int) := of_decide_eq_true (by first | (with_reducible assumption) | assumption); have q162 : (ji20) < (y146.length : Int) := of_decide_eq_true (by first | (with_reducible assumption) | assumption); obtain ⟨ad162, e162, hx162_0⟩ := Kd.at_int (Kd.R_reads' HO148.out).2.2 (ji20) p162 q162; obtain rfl : ad161 = ad162 := (by injection e162); replace p162 := eq_true p162; replace q162 := eq_true q162)))
                              go_loopg [17] k (fun kq v17 w' => ∃ (x17_1 : Int), v17 = .int .i64 x17_1 ∧ Aside0 (cubitlaw03_BitsPlaces.l0 kq l2 y149 x17_1 = some r) ∧ Aside0 (kq ≤ k) ∧ Aside0 (Kd.C (Kd.int .i64) w' (some ad161) y149.length y149) ∧ Aside0 (Below w.heap.size w w'))
                              case atStart => exact ⟨(0), (by first | rfl | (simp; done) | (simp [*]; done)), H', ⟨Nat.le_refl _⟩, ⟨by repeat (first | (with_reducible exact HR152.out) | (with_reducible refine Kd.C_alloc ?_ _) | (with_reducible refine Kd.C_drewN ?_ _) | (with_reducible refine Kd.C_drew ?_) | exact HR152.out)⟩, ⟨by repeat (first | (with_reducible first | exact HB.out | apply below_alloc | apply pw_below_drewN | apply below_drew1) | exact HB.out)⟩⟩
                              case round =>
                                clear H'
                                try clear c1
                                try clear p1
                                try clear q1
                                try clear hx1
                                try clear c2
                                try clear p2
                                try clear c3
                                try clear q3
                                try clear c5
                                try clear c6
                                try clear p6
                                try clear c7
                                try clear c8
                                try clear c8b0
                                try clear c8b1
                                try clear c9
                                try clear c9b0
                                try clear c9b1
                                try clear c14
                                try clear c14b0
                                try clear c14b1
                                try clear c15
                                try clear c15b0
                                try clear c15b1
                                try clear c16
                                try clear c16b0
                                try clear c16b1
                                try clear p16
                                try clear q16
                                try clear hx16
                                try clear c17
                                try clear c17b0
                                try clear c17b1
                                try clear c18
                                try clear c18b0
                                try clear c18b1
                                try clear c19
                                try clear c19b0
                                try clear c19b1
                                try clear c21
                                try clear c21b0
                                try clear c22
                                try clear c22b0
                                try clear c23
                                try clear c23b0
                                try clear c23b1
                                try clear q32
                                try clear hx161_0
                                try clear hx162_0
                                try clear p161
                                try clear p162
                                try clear q161
                                try clear q162
                                try clear q32
                                obtain ⟨x17_1, rfl, HA, HK1, HR152, HB⟩ := hrel
                                cases gk with
                                | zero => exact absurd HA.out (by simp [cubitlaw03_BitsPlaces.l0])
                                | succ k1 =>
                                  have H := HA.out
                                  clear HA
                                  simp only [cubitlaw03_BitsPlaces.l0] at H
                                  by_cases c34 : x17_1 < (l2.length : Int)
                                  · rw [if_pos c34] at H
                                    have c34b0 : decide (x17_1 < (l2.length : Int)) = true := decide_eq_true c34
                                    clear c34
                                    by_cases c35 : 0 ≤ x17_1
                                    · rw [if_pos c35] at H
                                      have c35b0 : decide (0 ≤ x17_1) = true := decide_eq_true c35
                                      clear c35
                                      by_cases c36 : x17_1 < (y149.length : Int)
                                      · rw [if_pos c36] at H
                                        have c36b0 : decide (x17_1 < (y149.length : Int)) = true := decide_eq_true c36
                                        clear c36
                                        by_cases c37 : (rd y149 x17_1) = (rd l2 x17_1)
                                        · rw [if_pos c37] at H
                                          have c37b0 : ((rd y149 x17_1) == (rd l2 x17_1)) = true := beq_iff_eq.mpr c37
                                          have c37b1 : ((rd y149 x17_1) != (rd l2 x17_1)) = false := bne_eq_false_iff_eq.mpr c37
                                          clear c37
                                          have H' := Aside0.mk H
                                          clear H
                                          have p163 : 0 ≤ (x17_1 : Int) := of_decide_eq_true (by first | (with_reducible assumption) | assumption)
                                          have q163 : x17_1 < (y149.length : Int) := of_decide_eq_true (by first | (with_reducible assumption) | assumption)
                                          obtain ⟨ad163, e163, hx163_0⟩ := Kd.at_int HR152.out x17_1 p163 q163
                                          obtain rfl : ad161 = ad163 := (by injection e163)
                                          (try replace hx163_0 := (HB.out.cell (World.block_lt_of_cell? w _ hx163_0)).trans hx163_0)
                                          replace p163 := eq_true p163
                                          replace q163 := eq_true q163
                                          have p164 : 0 ≤ (x17_1 : Int) := of_decide_eq_true (by first | (with_reducible assumption) | assumption)
                                          have q164 : x17_1 < (l2.length : Int) := of_decide_eq_true (by first | (with_reducible assumption) | assumption)
                                          obtain ⟨ad164, e164, hx164_0⟩ := Kd.at_int HR2.out x17_1 p164 q164
                                          cases e164
                                          (try replace hx164_0 := (HB.out.cell (World.block_lt_of_cell? w _ hx164_0)).trans hx164_0)
                                          replace p164 := eq_true p164
                                          replace q164 := eq_true q164
                                          go_wp2
                                          repeat (go_quiet (fail); try go_wp2)
                                          go_roundg k1
                                          case measure => have := HK1.out; omega
                                          case rel => exact ⟨(wrap64 (x17_1 + 1)), (by first | rfl | (simp; done) | (simp [*]; done)), H', ⟨by have := HK1.out; omega⟩, ⟨by repeat (first | (with_reducible exact HR152.out) | (with_reducible refine Kd.C_alloc ?_ _) | (with_reducible refine Kd.C_drewN ?_ _) | (with_reducible refine Kd.C_drew ?_) | exact HR152.out)⟩, ⟨by repeat (first | (with_reducible first | exact HB.out | apply below_alloc | apply pw_below_drewN | apply below_drew1) | exact HB.out)⟩⟩
                                        · rw [if_neg c37] at H
                                          have c37b0 : ((rd y149 x17_1) == (rd l2 x17_1)) = false := beq_eq_false_iff_ne.mpr c37
                                          have c37b1 : ((rd y149 x17_1) != (rd l2 x17_1)) = true := bne_iff_ne.mpr c37
                                          exact absurd (HTRUE.out.symm.trans (Option.some.inj H).symm) (by decide)
                                      · rw [if_neg c36] at H
                                        exact absurd H (by simp)
                                    · rw [if_neg c35] at H
                                      exact absurd H (by simp)
                                  · rw [if_neg c34] at H
                                    have c34b0 : decide (x17_1 < (l2.length : Int)) = false := decide_eq_false c34
                                    clear c34
                                    obtain rfl := Option.some.inj H
                                    go_wp2
                                    repeat (go_quiet (fail); try go_wp2)
                                    go_ret
                                    exact ⟨by first | rfl | (simp [errW_none, errW_some] <;> rfl) | (simp only [← hji20]; first | rfl | (simp [errW_none, errW_some] <;> rfl)) | (simp [*, errW_none, errW_some] <;> rfl), by repeat (first | (with_reducible first | exact HB.out | apply below_alloc | apply pw_below_drewN | apply below_drew1) | exact HB.out)⟩
                            · rw [if_neg c23] at H
                              have c23b0 : ((rd y146 (ji20)) == 78) = false := beq_eq_false_iff_ne.mpr c23
                              have c23b1 : ((rd y146 (ji20)) != 78) = true := bne_iff_ne.mpr c23
                              exact absurd (HTRUE.out.symm.trans (Option.some.inj H).symm) (by decide)
                          · rw [if_neg c22] at H
                            exact absurd H (by simp)
                        · rw [if_neg c21] at H
                          exact absurd H (by simp)
                      · rw [if_neg c19] at H
                        have c19b0 : ((rd y146 (l2.length : Int)) == 77) = false := beq_eq_false_iff_ne.mpr c19
                        have c19b1 : ((rd y146 (l2.length : Int)) != 77) = true := bne_iff_ne.mpr c19
                        exact absurd (HTRUE.out.symm.trans (Option.some.inj H).symm) (by decide)
                    · rw [if_neg c18] at H
                      exact absurd H (by simp)
                  · rw [if_neg c17] at H
                    have c17b0 : (t160 == t158) = false := beq_eq_false_iff_ne.mpr c17
                    have c17b1 : (t160 != t158) = true := bne_iff_ne.mpr c17
                    exact absurd (HTRUE.out.symm.trans (Option.some.inj H).symm) (by decide)
                · rw [if_neg c16] at H
                  have c16b0 : (t159 == t157) = false := beq_eq_false_iff_ne.mpr c16
                  have c16b1 : (t159 != t157) = true := bne_iff_ne.mpr c16
                  exact absurd (HTRUE.out.symm.trans (Option.some.inj H).symm) (by decide)
              · rw [if_neg c15] at H
                have c15b0 : (t156 == t154) = false := beq_eq_false_iff_ne.mpr c15
                have c15b1 : (t156 != t154) = true := bne_iff_ne.mpr c15
                exact absurd (HTRUE.out.symm.trans (Option.some.inj H).symm) (by decide)
            · rw [if_neg c14] at H
              have c14b0 : (t155 == t153) = false := beq_eq_false_iff_ne.mpr c14
              have c14b1 : (t155 != t153) = true := bne_iff_ne.mpr c14
              exact absurd (HTRUE.out.symm.trans (Option.some.inj H).symm) (by decide)
          · rw [if_neg c9] at H
            exact absurd H (by simp)
        · rw [if_neg c8] at H
          exact absurd H (by simp)
      · rw [if_neg c7] at H
        exact absurd H (by simp)
    · rw [if_neg c6] at H
      exact absurd H (by simp)
  · replace c5 := Bool.eq_false_iff.mpr c5
    subst c5
    have H1 : (some false) = some r := by rw [if_neg (show ¬ (false = true) by decide)] at H; exact H
    clear H
    have H := H1
    clear H1
    exact absurd (HTRUE.out.symm.trans (Option.some.inj H).symm) (by decide)

/-- THE ONE PURE STATEMENT of cubitlaw03_BitsPlaces: yours. -/
def cubitlaw03_BitsPlaces.Pure : Prop := ∀ (a0 : Int) (a1 : Int) (l2 : List Int), (Lit.int .u64 a0).wf = true → (Lit.int .u64 a1).wf = true → l2.length ≤ maxLen → l2.length * 8 ≤ 140737488351232 → (∀ x ∈ l2, (Lit.int .i64 x).wf = true) → ∃ k, cubitlaw03_BitsPlaces.f k a0 a1 l2 = some true
theorem cubitlaw03_BitsPlaces.walk (P : cubitlaw03_BitsPlaces.Pure) (a0 : Int) (a1 : Int) (a2 : Option Addr) (len2 cap2 : Nat) (z2 : List Int) (w : World) (w0 : (Lit.int .u64 a0).wf = true) (w1 : (Lit.int .u64 a1).wf = true) (w2 : (a2 = none ∧ len2 = 0 ∧ cap2 = 0 ∧ z2 = []) ∨ ∃ x, a2 = some x ∧ len2 ≤ cap2 ∧ cap2 ≤ maxLen ∧ z2.length = cap2 ∧ (∀ i, i < z2.length → w.cell? (x.add i) = some (.int .i64 (z2.getD i 0))) ∧ ∀ n ∈ z2, (Lit.int .i64 n).wf = true) (y2 : len2 * 8 ≤ 140737488351232) :
    Calls Tryd.prog 3 #[.int .u64 a0, .int .u64 a1, .slice a2 len2 cap2] w fun e w' => e = .returned (.bool true) ∧ Below w.heap.size w w' := by
  obtain ⟨l2, rfl, hr2, hm2, hw2, hc2⟩ := ReadsInt.ofRowC w2
  obtain ⟨k, h⟩ := P a0 a1 l2 w0 w1 hm2 y2 hw2
  refine (cubitlaw03_BitsPlaces.calls k a0 a1 _ _ l2 true w (Kd.C_of_reads (d := (0 : Int)) (h1 := fun _ => rfl) hr2) hc2 h rfl).mono ?_
  rintro e w' ⟨rfl, hd⟩
  exact ⟨rfl, hd⟩

end Go.Proofs.YtoebcbhadcpcoaaDoor.PA
