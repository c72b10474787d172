/- Printed for this claim by a program of the session: contracts of Go functions: a call answers what its Lean function tells, wherever that tells something. -/
import Derived.Test.YtoebcbhadcpcoaaDoorPAx0
import Derived.Test.YtoebcbhadcpcoaaDoorPAx2
import Derived.Test.YtoebcbhadcpcoaaDoorPAx3
namespace Go.Proofs.YtoebcbhadcpcoaaDoor.PA
open Go.RowKit Go.Proofs.YtoebcbhadcpcoaaDoorW.PrintWords Go.Proofs.YtoebcbhadcpcoaaDoorW.PrintLast Go.Proofs.YtoebcbhadcpcoaaDoorW.PrintMore
attribute [local go_sem] max2_int min2_int max_two min_two max_three min_three max_four min_four   -- for this text's walks alone
set_option linter.unusedVariables false
set_option linter.unusedSimpArgs false

/- The law's part behind its loops, as the printer tells it. -/
mutual
def setsTail.j0 : Nat → List Int → List Int → List Int → Bool → Option (Bool)
  | 0, _, _, _, _ => none
  | k + 1, x14, x16, x18, x98 => if x98 = true then (some false) else (setsTail.l0 k x14 x16 x18 0)
def setsTail.l0 : Nat → List Int → List Int → List Int → Int → Option (Bool)
  | 0, _, _, _, _ => none
  | k + 1, x14, x16, x18, x20 => if x20 < (x14.length : Int) then (if 0 ≤ x20 then (if x20 < (x16.length : Int) then (if (rd x16 x20) = (rd x14 x20) then (setsTail.l0 k x14 (x16.set (x20 : Int).toNat 9) x18 (wrap64 (x20 + 1))) else (some false)) else (none)) else (none)) else (setsTail.l1 k x14 x18 0)
def setsTail.l1 : Nat → List Int → List Int → Int → Option (Bool)
  | 0, _, _, _ => none
  | k + 1, x14, x18, x21 => if x21 < (x14.length : Int) then (if 0 ≤ x21 then (if x21 < (x18.length : Int) then (if (rd x18 x21) = (rd x14 x21) then (setsTail.l1 k x14 x18 (wrap64 (x21 + 1))) else (some false)) else (none)) else (none)) else (some true)
end
def setsTail.f (k : Nat) (a0 : Int) (a1 : Int) (a2 : Int) (a3 : Int) : Option (Bool) := (cubitref03_Of.f k a2 a3).bind fun bt140 => ((bits_Of.f k a2 a3).bind fun bt144 => ((bits_Of.f k a2 a3).bind fun bt148 => (if bt144.2 = bt140.2 then (if (bt144.1.length : Int) = (bt140.1.length : Int) then (setsTail.j0 k bt140.1 bt144.1 bt148.1 ((bt148.1.length : Int) != (bt140.1.length : Int))) else (setsTail.j0 k bt140.1 bt144.1 bt148.1 true)) else (setsTail.j0 k bt140.1 bt144.1 bt148.1 true))))
theorem setsTail.mono_l : ∀ k, (∀ y0 y1 y2 y3, LeO (setsTail.j0 k y0 y1 y2 y3) (setsTail.j0 (k + 1) y0 y1 y2 y3)) ∧ (∀ y0 y1 y2 y3, LeO (setsTail.l0 k y0 y1 y2 y3) (setsTail.l0 (k + 1) y0 y1 y2 y3)) ∧ (∀ y0 y1 y2, LeO (setsTail.l1 k y0 y1 y2) (setsTail.l1 (k + 1) y0 y1 y2))
  | 0 => ⟨fun _ _ _ _ r h => by simp [setsTail.j0] at h, fun _ _ _ _ r h => by simp [setsTail.l0] at h, fun _ _ _ r h => by simp [setsTail.l1] at h⟩
  | k + 1 => by
    obtain ⟨ih0, ih1, ih2⟩ := setsTail.mono_l k
    refine ⟨?_, ?_, ?_⟩
    · intro y0 y1 y2 y3
      unfold setsTail.j0
      repeat' first
      | (with_reducible exact ih0 _ _ _ _)
      | (with_reducible exact ih1 _ _ _ _)
      | (with_reducible exact ih2 _ _ _)
      | (with_reducible exact bits_Of.mono _ _ _)
      | (with_reducible exact cubitref03_Of.mono _ _ _)
      | (with_reducible exact LeO.refl _)
      | (with_reducible exact LeO.none _)
      | (with_reducible refine LeO.ite ?_ ?_)
      | (with_reducible refine LeO.bind ?_ (fun _ => ?_))
      | exact ih0 _ _ _ _
      | exact ih1 _ _ _ _
      | exact ih2 _ _ _
      | exact bits_Of.mono _ _ _
      | exact cubitref03_Of.mono _ _ _
      | exact LeO.none _
      | refine LeO.ite ?_ ?_
      | refine LeO.bind ?_ (fun _ => ?_)
    · intro y0 y1 y2 y3
      unfold setsTail.l0
      repeat' first
      | (with_reducible exact ih0 _ _ _ _)
      | (with_reducible exact ih1 _ _ _ _)
      | (with_reducible exact ih2 _ _ _)
      | (with_reducible exact bits_Of.mono _ _ _)
      | (with_reducible exact cubitref03_Of.mono _ _ _)
      | (with_reducible exact LeO.refl _)
      | (with_reducible exact LeO.none _)
      | (with_reducible refine LeO.ite ?_ ?_)
      | (with_reducible refine LeO.bind ?_ (fun _ => ?_))
      | exact ih0 _ _ _ _
      | exact ih1 _ _ _ _
      | exact ih2 _ _ _
      | exact bits_Of.mono _ _ _
      | exact cubitref03_Of.mono _ _ _
      | exact LeO.none _
      | refine LeO.ite ?_ ?_
      | refine LeO.bind ?_ (fun _ => ?_)
    · intro y0 y1 y2
      unfold setsTail.l1
      repeat' first
      | (with_reducible exact ih0 _ _ _ _)
      | (with_reducible exact ih1 _ _ _ _)
      | (with_reducible exact ih2 _ _ _)
      | (with_reducible exact bits_Of.mono _ _ _)
      | (with_reducible exact cubitref03_Of.mono _ _ _)
      | (with_reducible exact LeO.refl _)
      | (with_reducible exact LeO.none _)
      | (with_reducible refine LeO.ite ?_ ?_)
      | (with_reducible refine LeO.bind ?_ (fun _ => ?_))
      | exact ih0 _ _ _ _
      | exact ih1 _ _ _ _
      | exact ih2 _ _ _
      | exact bits_Of.mono _ _ _
      | exact cubitref03_Of.mono _ _ _
      | exact LeO.none _
      | refine LeO.ite ?_ ?_
      | refine LeO.bind ?_ (fun _ => ?_)
theorem setsTail.mono : ∀ a0 a1 a2 a3 k, LeO (setsTail.f k a0 a1 a2 a3) (setsTail.f (k + 1) a0 a1 a2 a3) := by
  intro a0 a1 a2 a3 k
  obtain ⟨ih0, ih1, ih2⟩ := setsTail.mono_l k
  unfold setsTail.f
  repeat' first
      | (with_reducible exact ih0 _ _ _ _)
      | (with_reducible exact ih1 _ _ _ _)
      | (with_reducible exact ih2 _ _ _)
      | (with_reducible exact bits_Of.mono _ _ _)
      | (with_reducible exact cubitref03_Of.mono _ _ _)
      | (with_reducible exact LeO.refl _)
      | (with_reducible exact LeO.none _)
      | (with_reducible refine LeO.ite ?_ ?_)
      | (with_reducible refine LeO.bind ?_ (fun _ => ?_))
      | exact ih0 _ _ _ _
      | exact ih1 _ _ _ _
      | exact ih2 _ _ _
      | exact bits_Of.mono _ _ _
      | exact cubitref03_Of.mono _ _ _
      | exact LeO.none _
      | refine LeO.ite ?_ ?_
      | refine LeO.bind ?_ (fun _ => ?_)
end Go.Proofs.YtoebcbhadcpcoaaDoor.PA
