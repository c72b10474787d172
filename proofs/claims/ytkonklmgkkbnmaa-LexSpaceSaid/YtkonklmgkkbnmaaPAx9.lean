/- Printed for this claim by a program of the session: contracts of Go functions: a call answers what its Lean function tells, wherever that tells something. -/
import Derived.Test.YtkonklmgkkbnmaaPAx0
import Derived.Test.YtkonklmgkkbnmaaPAx1
import Derived.Test.YtkonklmgkkbnmaaPAx3
namespace Go.Proofs.Ytkonklmgkkbnmaa.PA
open Go.RowKit Go.Proofs.YtkonklmgkkbnmaaW.PrintWords Go.Proofs.YtkonklmgkkbnmaaW.PrintLast Go.Proofs.YtkonklmgkkbnmaaW.PrintMore
attribute [local go_sem] max2_int min2_int max_two min_two max_three min_three max_four min_four   -- for this text's walks alone
set_option linter.unusedVariables false
set_option linter.unusedSimpArgs false

attribute [local go_sem high] eqA31
/-! ### cubitlaw09_LexSpace: function 5 -/
mutual
def cubitlaw09_LexSpace.j0 : Nat → ByteArray → Int → List Int → ByteArray → List (S31) → Bool → Option (Bool)
  | 0, _, _, _, _, _, _ => none
  | k + 1, x0, x1, x2, x3, x9, x36 => if x36 = true then (some true) else (if x1 < 0 then (cubitlaw09_LexSpace.j1 k x0 (wrap64 (-(wrap64 (x1 + 1)))) x2 x3 x9) else (cubitlaw09_LexSpace.j1 k x0 x1 x2 x3 x9))
def cubitlaw09_LexSpace.j1 : Nat → ByteArray → Int → List Int → ByteArray → List (S31) → Option (Bool)
  | 0, _, _, _, _, _ => none
  | k + 1, x0, x1, x2, x3, x9 => if (x9.length : Int) = 0 then (none) else (cubitlaw09_LexSpace.l0 k x0 x2 x3 x9 (Int.tmod x1 (x9.length : Int)) (⟨#[]⟩ : ByteArray) 0)
def cubitlaw09_LexSpace.j3 : Nat → ByteArray → ByteArray → List (S31) → Int → ByteArray → Option (Bool)
  | 0, _, _, _, _, _ => none
  | k + 1, x0, x3, x9, x12, x13 => if x3.toList = ([] : List UInt8) then (cubitlaw09_LexSpace.j4 k x0 x3 x9 x12 x13 false) else (cubitlaw09_LexSpace.j4 k x0 x3 x9 x12 x13 (decide ((x3.size : Int) < 100)))
def cubitlaw09_LexSpace.j4 : Nat → ByteArray → ByteArray → List (S31) → Int → ByteArray → Bool → Option (Bool)
  | 0, _, _, _, _, _, _ => none
  | k + 1, x0, x3, x9, x12, x13, x72 => if x72 = true then (if x13.size + 1 ≤ 9223372036854775807 then (cubitlaw09_LexSpace.l1 k x0 x3 x9 x12 (x13 ++ (⟨#[35]⟩ : ByteArray)) 0) else (none)) else (cubitlaw09_LexSpace.j6 k x0 x9 x12 x13)
def cubitlaw09_LexSpace.j6 : Nat → ByteArray → List (S31) → Int → ByteArray → Option (Bool)
  | 0, _, _, _, _ => none
  | k + 1, x0, x9, x12, x13 => if 0 ≤ x12 then (if x12 < (x9.length : Int) then (if (wrap64 ((x0.size : Int) + (x13.size : Int))) > 65536 then (some true) else (if 0 ≤ ((rd_T31 x9 x12).f2) then (if ((rd_T31 x9 x12).f2) ≤ (x0.size : Int) then (if (x0.extract 0 (((rd_T31 x9 x12).f2) : Int).toNat).size + x13.size ≤ 9223372036854775807 then (if ((x0.extract 0 (((rd_T31 x9 x12).f2) : Int).toNat) ++ x13).size + (x0.extract (((rd_T31 x9 x12).f2) : Int).toNat x0.size).size ≤ 9223372036854775807 then ((lex_Scan.f k (((x0.extract 0 (((rd_T31 x9 x12).f2) : Int).toNat) ++ x13) ++ (x0.extract (((rd_T31 x9 x12).f2) : Int).toNat x0.size))).bind fun bt213 => (if bt213.2.2 = 0 then (cubitlaw09_LexSpace.j7 k x9 x12 x13 bt213.1 ((bt213.1.length : Int) != (x9.length : Int))) else (cubitlaw09_LexSpace.j7 k x9 x12 x13 bt213.1 true))) else (none)) else (none)) else (none)) else (none))) else (none)) else (none)
def cubitlaw09_LexSpace.j7 : Nat → List (S31) → Int → ByteArray → List (S31) → Bool → Option (Bool)
  | 0, _, _, _, _, _ => none
  | k + 1, x9, x12, x13, x17, x127 => if x127 = true then (some false) else (cubitlaw09_LexSpace.l2 k x9 x12 x13 x17 0)
def cubitlaw09_LexSpace.l2 : Nat → List (S31) → Int → ByteArray → List (S31) → Int → Option (Bool)
  | 0, _, _, _, _, _ => none
  | k + 1, x9, x12, x13, x17, x20 => if x20 < (x9.length : Int) then (if 0 ≤ x20 then (if x20 ≥ x12 then (if x20 < (x17.length : Int) then (if (!(((rd_T31 x17 x20).f0) == ((rd_T31 x9 x20).f0)) || (!((((rd_T31 x17 x20).f1).toList) == (((rd_T31 x9 x20).f1).toList)) || (!(((rd_T31 x17 x20).f2) == (wrap64 (((rd_T31 x9 x20).f2) + (x13.size : Int))))))) = true then (some false) else (cubitlaw09_LexSpace.l2 k x9 x12 x13 x17 (wrap64 (x20 + 1)))) else (none)) else (if x20 < (x17.length : Int) then (if (!(((rd_T31 x17 x20).f0) == ((rd_T31 x9 x20).f0)) || (!((((rd_T31 x17 x20).f1).toList) == (((rd_T31 x9 x20).f1).toList)) || (!(((rd_T31 x17 x20).f2) == ((rd_T31 x9 x20).f2))))) = true then (some false) else (cubitlaw09_LexSpace.l2 k x9 x12 x13 x17 (wrap64 (x20 + 1)))) else (none))) else (none)) else (some true)
def cubitlaw09_LexSpace.l1 : Nat → ByteArray → ByteArray → List (S31) → Int → ByteArray → Int → Option (Bool)
  | 0, _, _, _, _, _, _ => none
  | k + 1, x0, x3, x9, x12, x13, x15 => if x15 < (x3.size : Int) then (if 0 ≤ x15 then (if (bt x3 x15) = 10 then (cubitlaw09_LexSpace.l1 k x0 x3 x9 x12 x13 (wrap64 (x15 + 1))) else (if x15 ≤ (wrap64 (x15 + 1)) then (if (wrap64 (x15 + 1)) ≤ (x3.size : Int) then (if x13.size + (x3.extract (x15 : Int).toNat ((wrap64 (x15 + 1)) : Int).toNat).size ≤ 9223372036854775807 then (cubitlaw09_LexSpace.l1 k x0 x3 x9 x12 (x13 ++ (x3.extract (x15 : Int).toNat ((wrap64 (x15 + 1)) : Int).toNat)) (wrap64 (x15 + 1))) else (none)) else (none)) else (none))) else (none)) else (if x13.size + 1 ≤ 9223372036854775807 then (cubitlaw09_LexSpace.j6 k x0 x9 x12 (x13 ++ (⟨#[10]⟩ : ByteArray))) else (none))
def cubitlaw09_LexSpace.l0 : Nat → ByteArray → List Int → ByteArray → List (S31) → Int → ByteArray → Int → Option (Bool)
  | 0, _, _, _, _, _, _, _ => none
  | k + 1, x0, x2, x3, x9, x12, x13, x14 => if x14 < (x2.length : Int) then (if x14 < 50 then (if 0 ≤ x14 then (if 0 ≤ (Int.tmod (rd x2 x14) 4) then (if (Int.tmod (rd x2 x14) 4) < 4 then ((some (([bt (⟨#[32, 9, 10, 13]⟩ : ByteArray) (Int.tmod (rd x2 x14) 4)] : List Int) : List Int)).bind fun y209 => (if x13.size + (strOfNums y209).size ≤ 9223372036854775807 then (cubitlaw09_LexSpace.l0 k x0 x2 x3 x9 x12 (x13 ++ (strOfNums y209)) (wrap64 (x14 + 1))) else (none))) else (none)) else (none)) else (none)) else (cubitlaw09_LexSpace.j3 k x0 x3 x9 x12 x13)) else (cubitlaw09_LexSpace.j3 k x0 x3 x9 x12 x13)
end
def cubitlaw09_LexSpace.f (k : Nat) (a0 : ByteArray) (a1 : Int) (l2 : List Int) (a3 : ByteArray) : Option (Bool) := (cubitlaw09_awake.f k).bind fun t202 => (if t202 = true then ((lex_Scan.f k a0).bind fun bt203 => (if bt203.2.2 = 0 then (cubitlaw09_LexSpace.j0 k a0 a1 l2 a3 bt203.1 ((bt203.1.length : Int) == 0)) else (cubitlaw09_LexSpace.j0 k a0 a1 l2 a3 bt203.1 true))) else (some false))
theorem cubitlaw09_LexSpace.mono_l : ∀ k, (∀ y0 y1 y2 y3 y4 y5, LeO (cubitlaw09_LexSpace.j0 k y0 y1 y2 y3 y4 y5) (cubitlaw09_LexSpace.j0 (k + 1) y0 y1 y2 y3 y4 y5)) ∧ (∀ y0 y1 y2 y3 y4, LeO (cubitlaw09_LexSpace.j1 k y0 y1 y2 y3 y4) (cubitlaw09_LexSpace.j1 (k + 1) y0 y1 y2 y3 y4)) ∧ (∀ y0 y1 y2 y3 y4, LeO (cubitlaw09_LexSpace.j3 k y0 y1 y2 y3 y4) (cubitlaw09_LexSpace.j3 (k + 1) y0 y1 y2 y3 y4)) ∧ (∀ y0 y1 y2 y3 y4 y5, LeO (cubitlaw09_LexSpace.j4 k y0 y1 y2 y3 y4 y5) (cubitlaw09_LexSpace.j4 (k + 1) y0 y1 y2 y3 y4 y5)) ∧ (∀ y0 y1 y2 y3, LeO (cubitlaw09_LexSpace.j6 k y0 y1 y2 y3) (cubitlaw09_LexSpace.j6 (k + 1) y0 y1 y2 y3)) ∧ (∀ y0 y1 y2 y3 y4, LeO (cubitlaw09_LexSpace.j7 k y0 y1 y2 y3 y4) (cubitlaw09_LexSpace.j7 (k + 1) y0 y1 y2 y3 y4)) ∧ (∀ y0 y1 y2 y3 y4, LeO (cubitlaw09_LexSpace.l2 k y0 y1 y2 y3 y4) (cubitlaw09_LexSpace.l2 (k + 1) y0 y1 y2 y3 y4)) ∧ (∀ y0 y1 y2 y3 y4 y5, LeO (cubitlaw09_LexSpace.l1 k y0 y1 y2 y3 y4 y5) (cubitlaw09_LexSpace.l1 (k + 1) y0 y1 y2 y3 y4 y5)) ∧ (∀ y0 y1 y2 y3 y4 y5 y6, LeO (cubitlaw09_LexSpace.l0 k y0 y1 y2 y3 y4 y5 y6) (cubitlaw09_LexSpace.l0 (k + 1) y0 y1 y2 y3 y4 y5 y6))
  | 0 => ⟨fun _ _ _ _ _ _ r h => by simp [cubitlaw09_LexSpace.j0] at h, fun _ _ _ _ _ r h => by simp [cubitlaw09_LexSpace.j1] at h, fun _ _ _ _ _ r h => by simp [cubitlaw09_LexSpace.j3] at h, fun _ _ _ _ _ _ r h => by simp [cubitlaw09_LexSpace.j4] at h, fun _ _ _ _ r h => by simp [cubitlaw09_LexSpace.j6] at h, fun _ _ _ _ _ r h => by simp [cubitlaw09_LexSpace.j7] at h, fun _ _ _ _ _ r h => by simp [cubitlaw09_LexSpace.l2] at h, fun _ _ _ _ _ _ r h => by simp [cubitlaw09_LexSpace.l1] at h, fun _ _ _ _ _ _ _ r h => by simp [cubitlaw09_LexSpace.l0] at h⟩
  | k + 1 => by
    obtain ⟨ih0, ih1, ih2, ih3, ih4, ih5, ih6, ih7, ih8⟩ := cubitlaw09_LexSpace.mono_l k
    refine ⟨?_, ?_, ?_, ?_, ?_, ?_, ?_, ?_, ?_⟩
    · intro y0 y1 y2 y3 y4 y5
      unfold cubitlaw09_LexSpace.j0
      repeat' first
      | (with_reducible exact ih0 _ _ _ _ _ _)
      | (with_reducible exact ih1 _ _ _ _ _)
      | (with_reducible exact ih2 _ _ _ _ _)
      | (with_reducible exact ih3 _ _ _ _ _ _)
      | (with_reducible exact ih4 _ _ _ _)
      | (with_reducible exact ih5 _ _ _ _ _)
      | (with_reducible exact ih6 _ _ _ _ _)
      | (with_reducible exact ih7 _ _ _ _ _ _)
      | (with_reducible exact ih8 _ _ _ _ _ _ _)
      | (with_reducible exact cubitlaw09_awake.mono _)
      | (with_reducible exact lex_Scan.mono _ _)
      | (with_reducible exact LeO.refl _)
      | (with_reducible exact LeO.none _)
      | (with_reducible refine LeO.ite ?_ ?_)
      | (with_reducible refine LeO.bind ?_ (fun _ => ?_))
      | exact ih0 _ _ _ _ _ _
      | exact ih1 _ _ _ _ _
      | exact ih2 _ _ _ _ _
      | exact ih3 _ _ _ _ _ _
      | exact ih4 _ _ _ _
      | exact ih5 _ _ _ _ _
      | exact ih6 _ _ _ _ _
      | exact ih7 _ _ _ _ _ _
      | exact ih8 _ _ _ _ _ _ _
      | exact cubitlaw09_awake.mono _
      | exact lex_Scan.mono _ _
      | exact LeO.none _
      | refine LeO.ite ?_ ?_
      | refine LeO.bind ?_ (fun _ => ?_)
    · intro y0 y1 y2 y3 y4
      unfold cubitlaw09_LexSpace.j1
      repeat' first
      | (with_reducible exact ih0 _ _ _ _ _ _)
      | (with_reducible exact ih1 _ _ _ _ _)
      | (with_reducible exact ih2 _ _ _ _ _)
      | (with_reducible exact ih3 _ _ _ _ _ _)
      | (with_reducible exact ih4 _ _ _ _)
      | (with_reducible exact ih5 _ _ _ _ _)
      | (with_reducible exact ih6 _ _ _ _ _)
      | (with_reducible exact ih7 _ _ _ _ _ _)
      | (with_reducible exact ih8 _ _ _ _ _ _ _)
      | (with_reducible exact cubitlaw09_awake.mono _)
      | (with_reducible exact lex_Scan.mono _ _)
      | (with_reducible exact LeO.refl _)
      | (with_reducible exact LeO.none _)
      | (with_reducible refine LeO.ite ?_ ?_)
      | (with_reducible refine LeO.bind ?_ (fun _ => ?_))
      | exact ih0 _ _ _ _ _ _
      | exact ih1 _ _ _ _ _
      | exact ih2 _ _ _ _ _
      | exact ih3 _ _ _ _ _ _
      | exact ih4 _ _ _ _
      | exact ih5 _ _ _ _ _
      | exact ih6 _ _ _ _ _
      | exact ih7 _ _ _ _ _ _
      | exact ih8 _ _ _ _ _ _ _
      | exact cubitlaw09_awake.mono _
      | exact lex_Scan.mono _ _
      | exact LeO.none _
      | refine LeO.ite ?_ ?_
      | refine LeO.bind ?_ (fun _ => ?_)
    · intro y0 y1 y2 y3 y4
      unfold cubitlaw09_LexSpace.j3
      repeat' first
      | (with_reducible exact ih0 _ _ _ _ _ _)
      | (with_reducible exact ih1 _ _ _ _ _)
      | (with_reducible exact ih2 _ _ _ _ _)
      | (with_reducible exact ih3 _ _ _ _ _ _)
      | (with_reducible exact ih4 _ _ _ _)
      | (with_reducible exact ih5 _ _ _ _ _)
      | (with_reducible exact ih6 _ _ _ _ _)
      | (with_reducible exact ih7 _ _ _ _ _ _)
      | (with_reducible exact ih8 _ _ _ _ _ _ _)
      | (with_reducible exact cubitlaw09_awake.mono _)
      | (with_reducible exact lex_Scan.mono _ _)
      | (with_reducible exact LeO.refl _)
      | (with_reducible exact LeO.none _)
      | (with_reducible refine LeO.ite ?_ ?_)
      | (with_reducible refine LeO.bind ?_ (fun _ => ?_))
      | exact ih0 _ _ _ _ _ _
      | exact ih1 _ _ _ _ _
      | exact ih2 _ _ _ _ _
      | exact ih3 _ _ _ _ _ _
      | exact ih4 _ _ _ _
      | exact ih5 _ _ _ _ _
      | exact ih6 _ _ _ _ _
      | exact ih7 _ _ _ _ _ _
      | exact ih8 _ _ _ _ _ _ _
      | exact cubitlaw09_awake.mono _
      | exact lex_Scan.mono _ _
      | exact LeO.none _
      | refine LeO.ite ?_ ?_
      | refine LeO.bind ?_ (fun _ => ?_)
    · intro y0 y1 y2 y3 y4 y5
      unfold cubitlaw09_LexSpace.j4
      repeat' first
      | (with_reducible exact ih0 _ _ _ _ _ _)
      | (with_reducible exact ih1 _ _ _ _ _)
      | (with_reducible exact ih2 _ _ _ _ _)
      | (with_reducible exact ih3 _ _ _ _ _ _)
      | (with_reducible exact ih4 _ _ _ _)
      | (with_reducible exact ih5 _ _ _ _ _)
      | (with_reducible exact ih6 _ _ _ _ _)
      | (with_reducible exact ih7 _ _ _ _ _ _)
      | (with_reducible exact ih8 _ _ _ _ _ _ _)
      | (with_reducible exact cubitlaw09_awake.mono _)
      | (with_reducible exact lex_Scan.mono _ _)
      | (with_reducible exact LeO.refl _)
      | (with_reducible exact LeO.none _)
      | (with_reducible refine LeO.ite ?_ ?_)
      | (with_reducible refine LeO.bind ?_ (fun _ => ?_))
      | exact ih0 _ _ _ _ _ _
      | exact ih1 _ _ _ _ _
      | exact ih2 _ _ _ _ _
      | exact ih3 _ _ _ _ _ _
      | exact ih4 _ _ _ _
      | exact ih5 _ _ _ _ _
      | exact ih6 _ _ _ _ _
      | exact ih7 _ _ _ _ _ _
      | exact ih8 _ _ _ _ _ _ _
      | exact cubitlaw09_awake.mono _
      | exact lex_Scan.mono _ _
      | exact LeO.none _
      | refine LeO.ite ?_ ?_
      | refine LeO.bind ?_ (fun _ => ?_)
    · intro y0 y1 y2 y3
      unfold cubitlaw09_LexSpace.j6
      repeat' first
      | (with_reducible exact ih0 _ _ _ _ _ _)
      | (with_reducible exact ih1 _ _ _ _ _)
      | (with_reducible exact ih2 _ _ _ _ _)
      | (with_reducible exact ih3 _ _ _ _ _ _)
      | (with_reducible exact ih4 _ _ _ _)
      | (with_reducible exact ih5 _ _ _ _ _)
      | (with_reducible exact ih6 _ _ _ _ _)
      | (with_reducible exact ih7 _ _ _ _ _ _)
      | (with_reducible exact ih8 _ _ _ _ _ _ _)
      | (with_reducible exact cubitlaw09_awake.mono _)
      | (with_reducible exact lex_Scan.mono _ _)
      | (with_reducible exact LeO.refl _)
      | (with_reducible exact LeO.none _)
      | (with_reducible refine LeO.ite ?_ ?_)
      | (with_reducible refine LeO.bind ?_ (fun _ => ?_))
      | exact ih0 _ _ _ _ _ _
      | exact ih1 _ _ _ _ _
      | exact ih2 _ _ _ _ _
      | exact ih3 _ _ _ _ _ _
      | exact ih4 _ _ _ _
      | exact ih5 _ _ _ _ _
      | exact ih6 _ _ _ _ _
      | exact ih7 _ _ _ _ _ _
      | exact ih8 _ _ _ _ _ _ _
      | exact cubitlaw09_awake.mono _
      | exact lex_Scan.mono _ _
      | exact LeO.none _
      | refine LeO.ite ?_ ?_
      | refine LeO.bind ?_ (fun _ => ?_)
    · intro y0 y1 y2 y3 y4
      unfold cubitlaw09_LexSpace.j7
      repeat' first
      | (with_reducible exact ih0 _ _ _ _ _ _)
      | (with_reducible exact ih1 _ _ _ _ _)
      | (with_reducible exact ih2 _ _ _ _ _)
      | (with_reducible exact ih3 _ _ _ _ _ _)
      | (with_reducible exact ih4 _ _ _ _)
      | (with_reducible exact ih5 _ _ _ _ _)
      | (with_reducible exact ih6 _ _ _ _ _)
      | (with_reducible exact ih7 _ _ _ _ _ _)
      | (with_reducible exact ih8 _ _ _ _ _ _ _)
      | (with_reducible exact cubitlaw09_awake.mono _)
      | (with_reducible exact lex_Scan.mono _ _)
      | (with_reducible exact LeO.refl _)
      | (with_reducible exact LeO.none _)
      | (with_reducible refine LeO.ite ?_ ?_)
      | (with_reducible refine LeO.bind ?_ (fun _ => ?_))
      | exact ih0 _ _ _ _ _ _
      | exact ih1 _ _ _ _ _
      | exact ih2 _ _ _ _ _
      | exact ih3 _ _ _ _ _ _
      | exact ih4 _ _ _ _
      | exact ih5 _ _ _ _ _
      | exact ih6 _ _ _ _ _
      | exact ih7 _ _ _ _ _ _
      | exact ih8 _ _ _ _ _ _ _
      | exact cubitlaw09_awake.mono _
      | exact lex_Scan.mono _ _
      | exact LeO.none _
      | refine LeO.ite ?_ ?_
      | refine LeO.bind ?_ (fun _ => ?_)
    · intro y0 y1 y2 y3 y4
      unfold cubitlaw09_LexSpace.l2
      repeat' first
      | (with_reducible exact ih0 _ _ _ _ _ _)
      | (with_reducible exact ih1 _ _ _ _ _)
      | (with_reducible exact ih2 _ _ _ _ _)
      | (with_reducible exact ih3 _ _ _ _ _ _)
      | (with_reducible exact ih4 _ _ _ _)
      | (with_reducible exact ih5 _ _ _ _ _)
      | (with_reducible exact ih6 _ _ _ _ _)
      | (with_reducible exact ih7 _ _ _ _ _ _)
      | (with_reducible exact ih8 _ _ _ _ _ _ _)
      | (with_reducible exact cubitlaw09_awake.mono _)
      | (with_reducible exact lex_Scan.mono _ _)
      | (with_reducible exact LeO.refl _)
      | (with_reducible exact LeO.none _)
      | (with_reducible refine LeO.ite ?_ ?_)
      | (with_reducible refine LeO.bind ?_ (fun _ => ?_))
      | exact ih0 _ _ _ _ _ _
      | exact ih1 _ _ _ _ _
      | exact ih2 _ _ _ _ _
      | exact ih3 _ _ _ _ _ _
      | exact ih4 _ _ _ _
      | exact ih5 _ _ _ _ _
      | exact ih6 _ _ _ _ _
      | exact ih7 _ _ _ _ _ _
      | exact ih8 _ _ _ _ _ _ _
      | exact cubitlaw09_awake.mono _
      | exact lex_Scan.mono _ _
      | exact LeO.none _
      | refine LeO.ite ?_ ?_
      | refine LeO.bind ?_ (fun _ => ?_)
    · intro y0 y1 y2 y3 y4 y5
      unfold cubitlaw09_LexSpace.l1
      repeat' first
      | (with_reducible exact ih0 _ _ _ _ _ _)
      | (with_reducible exact ih1 _ _ _ _ _)
      | (with_reducible exact ih2 _ _ _ _ _)
      | (with_reducible exact ih3 _ _ _ _ _ _)
      | (with_reducible exact ih4 _ _ _ _)
      | (with_reducible exact ih5 _ _ _ _ _)
      | (with_reducible exact ih6 _ _ _ _ _)
      | (with_reducible exact ih7 _ _ _ _ _ _)
      | (with_reducible exact ih8 _ _ _ _ _ _ _)
      | (with_reducible exact cubitlaw09_awake.mono _)
      | (with_reducible exact lex_Scan.mono _ _)
      | (with_reducible exact LeO.refl _)
      | (with_reducible exact LeO.none _)
      | (with_reducible refine LeO.ite ?_ ?_)
      | (with_reducible refine LeO.bind ?_ (fun _ => ?_))
      | exact ih0 _ _ _ _ _ _
      | exact ih1 _ _ _ _ _
      | exact ih2 _ _ _ _ _
      | exact ih3 _ _ _ _ _ _
      | exact ih4 _ _ _ _
      | exact ih5 _ _ _ _ _
      | exact ih6 _ _ _ _ _
      | exact ih7 _ _ _ _ _ _
      | exact ih8 _ _ _ _ _ _ _
      | exact cubitlaw09_awake.mono _
      | exact lex_Scan.mono _ _
      | exact LeO.none _
      | refine LeO.ite ?_ ?_
      | refine LeO.bind ?_ (fun _ => ?_)
    · intro y0 y1 y2 y3 y4 y5 y6
      unfold cubitlaw09_LexSpace.l0
      repeat' first
      | (with_reducible exact ih0 _ _ _ _ _ _)
      | (with_reducible exact ih1 _ _ _ _ _)
      | (with_reducible exact ih2 _ _ _ _ _)
      | (with_reducible exact ih3 _ _ _ _ _ _)
      | (with_reducible exact ih4 _ _ _ _)
      | (with_reducible exact ih5 _ _ _ _ _)
      | (with_reducible exact ih6 _ _ _ _ _)
      | (with_reducible exact ih7 _ _ _ _ _ _)
      | (with_reducible exact ih8 _ _ _ _ _ _ _)
      | (with_reducible exact cubitlaw09_awake.mono _)
      | (with_reducible exact lex_Scan.mono _ _)
      | (with_reducible exact LeO.refl _)
      | (with_reducible exact LeO.none _)
      | (with_reducible refine LeO.ite ?_ ?_)
      | (with_reducible refine LeO.bind ?_ (fun _ => ?_))
      | exact ih0 _ _ _ _ _ _
      | exact ih1 _ _ _ _ _
      | exact ih2 _ _ _ _ _
      | exact ih3 _ _ _ _ _ _
      | exact ih4 _ _ _ _
      | exact ih5 _ _ _ _ _
      | exact ih6 _ _ _ _ _
      | exact ih7 _ _ _ _ _ _
      | exact ih8 _ _ _ _ _ _ _
      | exact cubitlaw09_awake.mono _
      | exact lex_Scan.mono _ _
      | exact LeO.none _
      | refine LeO.ite ?_ ?_
      | refine LeO.bind ?_ (fun _ => ?_)
theorem cubitlaw09_LexSpace.mono : ∀ a0 a1 a2 a3 k, LeO (cubitlaw09_LexSpace.f k a0 a1 a2 a3) (cubitlaw09_LexSpace.f (k + 1) a0 a1 a2 a3) := by
  intro a0 a1 a2 a3 k
  obtain ⟨ih0, ih1, ih2, ih3, ih4, ih5, ih6, ih7, ih8⟩ := cubitlaw09_LexSpace.mono_l k
  unfold cubitlaw09_LexSpace.f
  repeat' first
      | (with_reducible exact ih0 _ _ _ _ _ _)
      | (with_reducible exact ih1 _ _ _ _ _)
      | (with_reducible exact ih2 _ _ _ _ _)
      | (with_reducible exact ih3 _ _ _ _ _ _)
      | (with_reducible exact ih4 _ _ _ _)
      | (with_reducible exact ih5 _ _ _ _ _)
      | (with_reducible exact ih6 _ _ _ _ _)
      | (with_reducible exact ih7 _ _ _ _ _ _)
      | (with_reducible exact ih8 _ _ _ _ _ _ _)
      | (with_reducible exact cubitlaw09_awake.mono _)
      | (with_reducible exact lex_Scan.mono _ _)
      | (with_reducible exact LeO.refl _)
      | (with_reducible exact LeO.none _)
      | (with_reducible refine LeO.ite ?_ ?_)
      | (with_reducible refine LeO.bind ?_ (fun _ => ?_))
      | exact ih0 _ _ _ _ _ _
      | exact ih1 _ _ _ _ _
      | exact ih2 _ _ _ _ _
      | exact ih3 _ _ _ _ _ _
      | exact ih4 _ _ _ _
      | exact ih5 _ _ _ _ _
      | exact ih6 _ _ _ _ _
      | exact ih7 _ _ _ _ _ _
      | exact ih8 _ _ _ _ _ _ _
      | exact cubitlaw09_awake.mono _
      | exact lex_Scan.mono _ _
      | exact LeO.none _
      | refine LeO.ite ?_ ?_
      | refine LeO.bind ?_ (fun _ => ?_)
def cubitlaw09_LexSpace.T25 : Bool × List (List Nat × List Nat) := (true, [([], []), ([], []), ([0, 1], [0, 1]), ([], []), ([2, 3], [2, 3]), ([], []), ([], []), ([5, 6], [5, 6]), ([4, 7], [4, 7]), ([8], [8]), ([9], [9]), ([10], [10]), ([10], [10]), ([10], [10]), ([11, 9, 0, 1, 2, 3, 4, 5, 6, 7, 8, 9, 10, 11], [11]), ([12, 14, 0, 1, 2, 3, 4, 5, 6, 7, 8, 9, 10, 11, 12, 14], [12]), ([13, 15, 0, 1, 2, 3, 4, 5, 6, 7, 8, 9, 10, 11, 12, 13, 14, 15], [13])])
def cubitlaw09_LexSpace.B25 : List Nat := [0, 0, 3, 0, 15, 0, 0, 96, 255, 511, 1023, 2047, 2047, 2047, 4095, 24575, 65535]
theorem cubitlaw09_LexSpace.tab25 : rtab .any (opsOf Try.f5 25) = cubitlaw09_LexSpace.T25 := by kernel_rfl
theorem cubitlaw09_LexSpace.bits25 : waitsOk cubitlaw09_LexSpace.T25.2 cubitlaw09_LexSpace.B25 = true := by kernel_rfl
set_option maxHeartbeats 8000000 in
set_option maxRecDepth 100000 in
theorem cubitlaw09_LexSpace.calls (k : Nat) (a0 : ByteArray) (a1 : Int) (A2 : Option Addr) (c2 : Nat) (l2 : List Int) (a3 : ByteArray) (r : Bool) (w : World) (hr2 : Kd.C (Kd.int .u8) w A2 l2.length l2) (hc2 : l2.length ≤ c2) (h : cubitlaw09_LexSpace.f k a0 a1 l2 a3 = some r) (htrue : r = true) :
    Calls Try.prog 5 #[.string a0, .int .i64 a1, .slice A2 l2.length c2, .string a3] w fun e w' => e = .returned (.bool r) ∧ Below w.heap.size w w' := by
  have hu31 := Try.underlying31
  have HR2 := Aside0.mk hr2
  have HC2 := Aside0.mk hc2
  clear hr2 hc2
  have HB := Aside0.mk (Below.refl w.heap.size w)
  have HTRUE := Aside0.mk htrue
  clear htrue
  have H : ((cubitlaw09_awake.f k).bind fun t202 => (if t202 = true then ((lex_Scan.f k a0).bind fun bt203 => (if bt203.2.2 = 0 then (cubitlaw09_LexSpace.j0 k a0 a1 l2 a3 bt203.1 ((bt203.1.length : Int) == 0)) else (cubitlaw09_LexSpace.j0 k a0 a1 l2 a3 bt203.1 true))) else (some false))) = some r := h
  clear h
  replace H := Option.bind_eq_some_iff.mp H
  obtain ⟨t202, A50, H⟩ := H
  replace H : (if t202 = true then ((lex_Scan.f k a0).bind fun bt203 => (if bt203.2.2 = 0 then (cubitlaw09_LexSpace.j0 k a0 a1 l2 a3 bt203.1 ((bt203.1.length : Int) == 0)) else (cubitlaw09_LexSpace.j0 k a0 a1 l2 a3 bt203.1 true))) else (some false)) = some r := H
  have A5 := Aside0.mk A50
  clear A50
  by_cases c6 : t202 = true
  · subst c6
    have H1 : ((lex_Scan.f k a0).bind fun bt203 => (if bt203.2.2 = 0 then (cubitlaw09_LexSpace.j0 k a0 a1 l2 a3 bt203.1 ((bt203.1.length : Int) == 0)) else (cubitlaw09_LexSpace.j0 k a0 a1 l2 a3 bt203.1 true))) = some r := by rw [if_pos rfl] at H; exact H
    clear H
    have H := H1
    clear H1
    replace H := Option.bind_eq_some_iff.mp H
    obtain ⟨⟨t203, t204, t205⟩, A70, H⟩ := H
    replace H : (if t205 = 0 then (cubitlaw09_LexSpace.j0 k a0 a1 l2 a3 t203 ((t203.length : Int) == 0)) else (cubitlaw09_LexSpace.j0 k a0 a1 l2 a3 t203 true)) = some r := H
    have A7 := Aside0.mk A70
    clear A70
    have HC8 := Aside0.mk H
    clear H
    go_enter Try.func5, Try.ntmps5
    go_upto_region 4 with (first | ((with_reducible refine gate_callee (f := 8) rfl ?_); refine goesL_ (some 22) rfl rfl Try.func8 (by kernel_rfl) rfl #[] rfl (by (try simp only [List.map_toArray, List.map_cons, List.map_nil]); first | done | rfl | (simp only [List.length_drop, List.length_take]; rfl)) ?_; (with_reducible refine (cubitlaw09_awake.calls k  true _ A5.out).mono ?_); rintro e w9 ⟨rfl, hb⟩; refine ⟨_, rfl, ?_⟩; have n0_ := Aside0.mk (below_step (by repeat (first | (with_reducible first | exact HB.out | apply below_alloc | apply pw_below_drewN | apply below_drew1) | exact HB.out)) hb); clear HB; have HB := n0_; clear n0_; (try clear hb); (try clear hb2); (try clear hk); (try clear hi)) | ((with_reducible refine gate_callee (f := 10) rfl ?_); refine goesL_ (some 26) rfl rfl Try.func10 (by kernel_rfl) rfl #[.string a0] rfl (by (try simp only [List.map_toArray, List.map_cons, List.map_nil]); first | done | rfl | (simp only [List.length_drop, List.length_take]; rfl)) ?_; (with_reducible refine (lex_Scan.calls k a0 t203 t204 t205 _ A7.out).mono ?_); rintro e w10 ⟨v206, rfl, ho0, hb⟩; refine ⟨_, rfl, ?_⟩; have n0_ := Aside0.mk (Kd.R_lower ho0 (below_size (by repeat (first | (with_reducible first | exact HB.out | apply below_alloc | apply pw_below_drewN | apply below_drew1) | exact HB.out)))); have n1_ := Aside0.mk (below_step (by repeat (first | (with_reducible first | exact HB.out | apply below_alloc | apply pw_below_drewN | apply below_drew1) | exact HB.out)) hb); clear HB; have HO207 := n0_; have HB := n1_; clear n0_ n1_; (try clear hb); (try clear hb2); (try clear hk); (try clear hi); (try clear ho0)))
    (try simp only [Act.put, List.setIfInBounds_toArray, List.set_cons_zero, List.set_cons_succ])
    go_cut [36] (fun v36 wc => ∃ (kq : Nat) (x36_7 : Bool), v36 = .bool x36_7 ∧ Aside0 (cubitlaw09_LexSpace.j0 kq a0 a1 l2 a3 t203 x36_7 = some r) ∧ Aside0 (kq ≤ k) ∧ Aside0 (Kd.R k31 31 wc w.heap.size (fun _ => True) v206 t203) ∧ Aside0 (Below w.heap.size w wc))
    case first =>
      have H := HC8.out
      clear HC8
      by_cases c11 : t205 = 0
      · rw [if_pos c11] at H
        have c11b0 : (t205 == 0) = true := beq_iff_eq.mpr c11
        have c11b1 : (t205 != 0) = false := bne_eq_false_iff_eq.mpr c11
        clear c11
        (first | rw [c11b0] | (simp only [i64_w, i32_w]; rw [c11b0]) | skip)
        have H' := Aside0.mk H
        clear H
        obtain ⟨Ao12, co12, eo12⟩ := Kd.R_slice HO207.out
        subst eo12
        go_wp2
        go_meet
        case rel => exact ⟨_, (((t203.length : Int) == 0)), (by first | rfl | (simp; done) | (simp [*]; done)), H', ⟨by first | omega | exact Nat.le_refl _⟩, ⟨by (with_reducible repeat (first | apply Kd.R_alloc | apply Kd.R_drewN | apply Kd.R_drew)); exact HO207.out⟩, ⟨by repeat (first | (with_reducible first | exact HB.out | apply below_alloc | apply pw_below_drewN | apply below_drew1) | exact HB.out)⟩⟩
      · rw [if_neg c11] at H
        have c11b0 : (t205 == 0) = false := beq_eq_false_iff_ne.mpr c11
        have c11b1 : (t205 != 0) = true := bne_iff_ne.mpr c11
        (first | rw [c11b0] | (simp only [i64_w, i32_w]; rw [c11b0]) | skip)
        have H' := Aside0.mk H
        clear H
        go_wp2
        go_meet
        case rel => exact ⟨_, (true), (by first | rfl | (simp; done) | (simp [*]; done)), H', ⟨by first | omega | exact Nat.le_refl _⟩, ⟨by (with_reducible repeat (first | apply Kd.R_alloc | apply Kd.R_drewN | apply Kd.R_drew)); exact HO207.out⟩, ⟨by repeat (first | (with_reducible first | exact HB.out | apply below_alloc | apply pw_below_drewN | apply below_drew1) | exact HB.out)⟩⟩
    case rest =>
      clear HC8
      try clear c1
      try clear c2
      try clear p2
      try clear c5
      try clear c6
      try clear c8
      try clear c10
      try clear c11
      try clear c11b0
      try clear c11b1
      obtain ⟨kq, x36_7, rfl, HA, HJ7, HO_9, HB⟩ := hcut
      cases kq with
      | zero => exact absurd HA.out (by simp [cubitlaw09_LexSpace.j0])
      | succ kj7 =>
        have H := HA.out
        clear HA
        simp only [cubitlaw09_LexSpace.j0] at H
        by_cases c13 : x36_7 = true
        · subst c13
          have H1 : (some true) = some r := by rw [if_pos rfl] at H; exact H
          clear H
          have H := H1
          clear H1
          obtain rfl := Option.some.inj H
          go_wp2
          go_ret
          exact ⟨by first | rfl | (simp [errW_none, errW_some] <;> rfl) | (simp [*, errW_none, errW_some] <;> rfl), by repeat (first | (with_reducible first | exact HB.out | apply below_alloc | apply pw_below_drewN | apply below_drew1) | exact HB.out)⟩
        · replace c13 := Bool.eq_false_iff.mpr c13
          subst c13
          have H1 : (if a1 < 0 then (cubitlaw09_LexSpace.j1 kj7 a0 (wrap64 (-(wrap64 (a1 + 1)))) l2 a3 t203) else (cubitlaw09_LexSpace.j1 kj7 a0 a1 l2 a3 t203)) = some r := by rw [if_neg (show ¬ (false = true) by decide)] at H; exact H
          clear H
          have H := H1
          clear H1
          have HC14 := Aside0.mk H
          clear H
          go_upto_if 38 with (fail)
          go_cut [1] (fun v1 wc => ∃ (kq : Nat) (x1_13 : Int), v1 = .int .i64 x1_13 ∧ Aside0 (cubitlaw09_LexSpace.j1 kq a0 x1_13 l2 a3 t203 = some r) ∧ Aside0 (kq ≤ kj7) ∧ Aside0 (Kd.R k31 31 wc w.heap.size (fun _ => True) v206 t203) ∧ Aside0 (Below w.heap.size w wc))
          case first =>
            have H := HC14.out
            clear HC14
            by_cases c15 : a1 < 0
            · rw [if_pos c15] at H
              have c15b0 : decide (a1 < 0) = true := decide_eq_true c15
              clear c15
              (first | rw [c15b0] | (simp only [i64_w, i32_w]; rw [c15b0]) | skip)
              have H' := Aside0.mk H
              clear H
              go_wp2
              go_meet
              case rel => exact ⟨_, (wrap64 (-(wrap64 (a1 + 1)))), (by first | rfl | (simp; done) | (simp [*]; done)), H', ⟨by have := HJ7.out; first | omega | exact Nat.le_refl _⟩, ⟨by (with_reducible repeat (first | apply Kd.R_alloc | apply Kd.R_drewN | apply Kd.R_drew)); exact HO_9.out⟩, ⟨by repeat (first | (with_reducible first | exact HB.out | apply below_alloc | apply pw_below_drewN | apply below_drew1) | exact HB.out)⟩⟩
            · rw [if_neg c15] at H
              have c15b0 : decide (a1 < 0) = false := decide_eq_false c15
              clear c15
              (first | rw [c15b0] | (simp only [i64_w, i32_w]; rw [c15b0]) | skip)
              have H' := Aside0.mk H
              clear H
              go_wp2
              go_meet
              case rel => exact ⟨_, (a1), (by first | rfl | (simp; done) | (simp [*]; done)), H', ⟨by have := HJ7.out; first | omega | exact Nat.le_refl _⟩, ⟨by (with_reducible repeat (first | apply Kd.R_alloc | apply Kd.R_drewN | apply Kd.R_drew)); exact HO_9.out⟩, ⟨by repeat (first | (with_reducible first | exact HB.out | apply below_alloc | apply pw_below_drewN | apply below_drew1) | exact HB.out)⟩⟩
          case rest =>
            clear HC14
            try clear c1
            try clear c2
            try clear p2
            try clear c5
            try clear c6
            try clear p6
            try clear c8
            try clear c10
            try clear c11
            try clear c11b0
            try clear c11b1
            try clear c13
            try clear c15
            try clear c15b0
            try clear p2
            obtain ⟨kq, x1_13, rfl, HA, HJ13, HO_9, HB⟩ := hcut
            cases kq with
            | zero => exact absurd HA.out (by simp [cubitlaw09_LexSpace.j1])
            | succ kj13 =>
              have H := HA.out
              clear HA
              simp only [cubitlaw09_LexSpace.j1] at H
              by_cases c16 : (t203.length : Int) = 0
              · rw [if_pos c16] at H
                exact absurd H (by simp)
              · rw [if_neg c16] at H
                have c16b0 : ((t203.length : Int) == 0) = false := beq_eq_false_iff_ne.mpr c16
                have c16b1 : ((t203.length : Int) != 0) = true := bne_iff_ne.mpr c16
                have c16b2 : ¬ (t203 = []) := fun h_ => c16 (by rw [h_]; rfl)
                have HC17 := Aside0.mk H
                clear H
                obtain ⟨Ao18, co18, eo18⟩ := Kd.R_slice HO_9.out
                subst eo18
                go_upto_block 0 with (fail)
                go_cut [13] (fun v13 wc => ∃ (kq : Nat) (x13_16 : ByteArray), v13 = .string x13_16 ∧ Aside0 (cubitlaw09_LexSpace.j3 kq a0 a3 t203 (Int.tmod x1_13 (t203.length : Int)) x13_16 = some r) ∧ Aside0 (kq ≤ kj13) ∧ Aside0 (Kd.R k31 31 wc w.heap.size (fun _ => True) (.slice Ao18 t203.length co18) t203) ∧ Aside0 (Below w.heap.size w wc))
                case first =>
                  have H := HC17.out
                  clear HC17
                  have H' := Aside0.mk H
                  clear H
                  go_wp2
                  go_loopg [13, 14] kj13 (fun kq v13 v14 w' => ∃ (x13_3 : ByteArray) (x14_3 : Int), v13 = .string x13_3 ∧ v14 = .int .i64 x14_3 ∧ Aside0 (cubitlaw09_LexSpace.l0 kq a0 l2 a3 t203 (Int.tmod x1_13 (t203.length : Int)) x13_3 x14_3 = some r) ∧ Aside0 (kq ≤ kj13) ∧ Aside0 (Kd.R k31 31 w' w.heap.size (fun _ => True) (.slice Ao18 t203.length co18) t203) ∧ Aside0 (Below w.heap.size w w'))
                  case atStart => exact ⟨((⟨#[]⟩ : ByteArray)), (0), (by first | rfl | (simp; done) | (simp [*]; done)), (by first | rfl | (simp; done) | (simp [*]; done)), H', ⟨Nat.le_refl _⟩, ⟨by (with_reducible repeat (first | apply Kd.R_alloc | apply Kd.R_drewN | apply Kd.R_drew)); exact HO_9.out⟩, ⟨by repeat (first | (with_reducible first | exact HB.out | apply below_alloc | apply pw_below_drewN | apply below_drew1) | exact HB.out)⟩⟩
                  case round =>
                    clear H'
                    try clear c1
                    try clear c2
                    try clear p2
                    try clear c5
                    try clear c6
                    try clear p6
                    try clear c8
                    try clear c10
                    try clear c11
                    try clear c11b0
                    try clear c11b1
                    try clear c13
                    try clear c15
                    try clear c15b0
                    try clear c16
                    try clear c16b0
                    try clear c16b1
                    try clear c16b2
                    try clear p2
                    try clear p6
                    obtain ⟨x13_3, x14_3, rfl, rfl, HA, HK3, HO_9, HB⟩ := hrel
                    cases gk with
                    | zero => exact absurd HA.out (by simp [cubitlaw09_LexSpace.l0])
                    | succ k3 =>
                      have H := HA.out
                      clear HA
                      simp only [cubitlaw09_LexSpace.l0] at H
                      by_cases c19 : x14_3 < (l2.length : Int)
                      · rw [if_pos c19] at H
                        have c19b0 : decide (x14_3 < (l2.length : Int)) = true := decide_eq_true c19
                        clear c19
                        (first | rw [c19b0] | (simp only [i64_w, i32_w]; rw [c19b0]) | skip)
                        by_cases c20 : x14_3 < 50
                        · rw [if_pos c20] at H
                          have c20b0 : decide (x14_3 < 50) = true := decide_eq_true c20
                          clear c20
                          by_cases c21 : 0 ≤ x14_3
                          · rw [if_pos c21] at H
                            have c21b0 : decide (0 ≤ x14_3) = true := decide_eq_true c21
                            clear c21
                            obtain ⟨ji22, hji22⟩ : ∃ j_ : Int, (Int.tmod (rd l2 x14_3) 4) = j_ := ⟨_, rfl⟩
                            replace H : (if 0 ≤ (ji22) then (if (ji22) < 4 then ((some (([bt (⟨#[32, 9, 10, 13]⟩ : ByteArray) (ji22)] : List Int) : List Int)).bind fun y209 => (if x13_3.size + (strOfNums y209).size ≤ 9223372036854775807 then (cubitlaw09_LexSpace.l0 k3 a0 l2 a3 t203 (Int.tmod x1_13 (t203.length : Int)) (x13_3 ++ (strOfNums y209)) (wrap64 (x14_3 + 1))) else (none))) else (none)) else (none)) = some r := by first | (rw [hji22] at H; exact H) | (simp only [hji22] at H ⊢; exact H)
                            by_cases c23 : 0 ≤ (ji22)
                            · rw [if_pos c23] at H
                              have c23b0 : decide (0 ≤ (ji22)) = true := decide_eq_true c23
                              clear c23
                              by_cases c24 : (ji22) < 4
                              · rw [if_pos c24] at H
                                have c24b0 : decide ((ji22) < 4) = true := decide_eq_true c24
                                clear c24
                                obtain ⟨y209, hy209⟩ : ∃ y_ : List Int, y_ = (([bt (⟨#[32, 9, 10, 13]⟩ : ByteArray) (ji22)] : List Int)) := ⟨_, rfl⟩
                                replace H : (if x13_3.size + (strOfNums y209).size ≤ 9223372036854775807 then (cubitlaw09_LexSpace.l0 k3 a0 l2 a3 t203 (Int.tmod x1_13 (t203.length : Int)) (x13_3 ++ (strOfNums y209)) (wrap64 (x14_3 + 1))) else (none)) = some r := by first | (rw [hy209]; with_reducible exact H) | (have H2_ := (Option.bind_some _ _).symm.trans H; rw [hy209]; with_reducible exact H2_) | (have H2_ := (Option.bind_some _ _).symm.trans H; with_reducible exact H2_) | with_reducible exact H | (rw [hy209]; exact H) | exact H
                                have Ny209 := Aside0.mk hy209
                                clear hy209
                                by_cases c26 : x13_3.size + (strOfNums y209).size ≤ 9223372036854775807
                                · rw [if_pos c26] at H
                                  have c26b0 := eq_true c26
                                  have c26b1 : decide (x13_3.size + (strOfNums y209).size ≤ 9223372036854775807) = true := decide_eq_true c26
                                  try have c26b2 : (9223372036854775807 < x13_3.size + (strOfNums y209).size) = False := eq_false (Nat.not_lt.2 c26)
                                  have H' := Aside0.mk H
                                  clear H
                                  have p208 : 0 ≤ (x14_3 : Int) := of_decide_eq_true (by first | (with_reducible assumption) | assumption)
                                  have q208 : x14_3 < (l2.length : Int) := of_decide_eq_true (by first | (with_reducible assumption) | assumption)
                                  obtain ⟨ad208, e208, hx208_0⟩ := Kd.at_int HR2.out x14_3 p208 q208
                                  cases e208
                                  replace hx208_0 := (HB.out.cell (World.block_lt_of_cell? w _ hx208_0)).trans hx208_0
                                  replace p208 := eq_true p208
                                  replace q208 := eq_true q208
                                  have p25 : 0 ≤ ((ji22) : Int) := of_decide_eq_true (by first | (with_reducible assumption) | assumption)
                                  have q25 : (ji22) < (4 : Int) := of_decide_eq_true (by first | (with_reducible assumption) | assumption)
                                  have hx25 := bt_at (⟨#[32, 9, 10, 13]⟩ : ByteArray) (ji22)
                                  replace p25 := eq_true p25
                                  replace q25 := eq_true q25
                                  go_wp2_with (first | ((with_reducible refine gate_dst (N := 63) rfl ?_); (try (refine gate_guard (by rfl) ?_; dsimp only)); refine Kd.R_lit (Kd.int .u8) _ 5 ?hg (N := 63) ?hd (xs := ([bt (⟨#[32, 9, 10, 13]⟩ : ByteArray) (ji22)] : List Int)) (inner := [.int .u8 (bt (⟨#[32, 9, 10, 13]⟩ : ByteArray) (ji22))]) (ok := fun _ => True) (okp := fun _ => True) ?hr ?hp (fun _ hk => hk) trivial (Below.refl _ _) (Nat.le_refl _) (by simp) ?_; (case hd => rfl); (case hg => rfl); (case hr => first | (go_simp; done) | (go_simp; rfl)); (case hp => exact (Reps.one (show Kd.M (Kd.int .u8) _ _ _ (bt (⟨#[32, 9, 10, 13]⟩ : ByteArray) (ji22)) [.int .u8 (bt (⟨#[32, 9, 10, 13]⟩ : ByteArray) (ji22))] from rfl) (Reps.none _ _))); intro v210 w27 ho28 hb hg_ hnew_; clear hg_ hnew_; (first | rw [← Ny209.out] at ho28 | (simp only [Int.reduceToNat] at ho28; rw [← Ny209.out] at ho28)); have n0_ := Aside0.mk (Kd.R_below (by (with_reducible repeat (first | apply Kd.R_alloc | apply Kd.R_drewN | apply Kd.R_drew)); exact HO_9.out) hb); have n1_ := Aside0.mk (Kd.R_lower ho28 (below_size (by repeat (first | (with_reducible first | exact HB.out | apply below_alloc | apply pw_below_drewN | apply below_drew1) | exact HB.out)))); have n2_ := Aside0.mk (below_step (by repeat (first | (with_reducible first | exact HB.out | apply below_alloc | apply pw_below_drewN | apply below_drew1) | exact HB.out)) hb); clear HO_9; clear HB; have HO_9 := n0_; have HO211 := n1_; have HB := n2_; clear n0_ n1_ n2_; clear hb ho28; have hcv29 := own_string (P := Try.prog) Try.underlying34 Try.underlying5 Try.underlying9 (Kd.own_of_R HO211.out)))
                                  go_roundg k3
                                  case measure => have := HJ7.out; have := HJ13.out; have := HK3.out; omega
                                  case rel => exact ⟨(x13_3 ++ (strOfNums y209)), (wrap64 (x14_3 + 1)), (by first | rfl | (simp; done) | (simp [*]; done)), (by first | rfl | (simp; done) | (simp [*]; done)), H', ⟨by have := HJ7.out; have := HJ13.out; have := HK3.out; omega⟩, ⟨by (with_reducible repeat (first | apply Kd.R_alloc | apply Kd.R_drewN | apply Kd.R_drew)); exact HO_9.out⟩, ⟨by repeat (first | (with_reducible first | exact HB.out | apply below_alloc | apply pw_below_drewN | apply below_drew1) | exact HB.out)⟩⟩
                                · rw [if_neg c26] at H
                                  exact absurd H (by simp)
                              · rw [if_neg c24] at H
                                exact absurd H (by simp)
                            · rw [if_neg c23] at H
                              exact absurd H (by simp)
                          · rw [if_neg c21] at H
                            exact absurd H (by simp)
                        · rw [if_neg c20] at H
                          have c20b0 : decide (x14_3 < 50) = false := decide_eq_false c20
                          clear c20
                          have H' := Aside0.mk H
                          clear H
                          go_wp2
                          go_meet
                          case rel => exact ⟨_, (x13_3), (by first | rfl | (simp; done) | (simp [*]; done)), H', ⟨by have := HJ7.out; have := HJ13.out; have := HK3.out; first | omega | exact Nat.le_refl _⟩, ⟨by (with_reducible repeat (first | apply Kd.R_alloc | apply Kd.R_drewN | apply Kd.R_drew)); exact HO_9.out⟩, ⟨by repeat (first | (with_reducible first | exact HB.out | apply below_alloc | apply pw_below_drewN | apply below_drew1) | exact HB.out)⟩⟩
                      · rw [if_neg c19] at H
                        have c19b0 : decide (x14_3 < (l2.length : Int)) = false := decide_eq_false c19
                        clear c19
                        (first | rw [c19b0] | (simp only [i64_w, i32_w]; rw [c19b0]) | skip)
                        have H' := Aside0.mk H
                        clear H
                        go_wp2
                        go_meet
                        case rel => exact ⟨_, (x13_3), (by first | rfl | (simp; done) | (simp [*]; done)), H', ⟨by have := HJ7.out; have := HJ13.out; have := HK3.out; first | omega | exact Nat.le_refl _⟩, ⟨by (with_reducible repeat (first | apply Kd.R_alloc | apply Kd.R_drewN | apply Kd.R_drew)); exact HO_9.out⟩, ⟨by repeat (first | (with_reducible first | exact HB.out | apply below_alloc | apply pw_below_drewN | apply below_drew1) | exact HB.out)⟩⟩
                case rest =>
                  clear HC17
                  try clear c1
                  try clear c2
                  try clear p2
                  try clear q2
                  try clear hx2
                  try clear hcv2
                  try clear c5
                  try clear c6
                  try clear p6
                  try clear c8
                  try clear c10
                  try clear c11
                  try clear c11b0
                  try clear c11b1
                  try clear c13
                  try clear c15
                  try clear c15b0
                  try clear c16
                  try clear c16b0
                  try clear c16b1
                  try clear c16b2
                  try clear c19
                  try clear c19b0
                  try clear c20
                  try clear c20b0
                  try clear p20
                  try clear q20
                  try clear hx20
                  try clear c21
                  try clear c21b0
                  try clear c23
                  try clear c23b0
                  try clear c24
                  try clear c24b0
                  try clear p25
                  try clear q25
                  try clear hx25
                  try clear c26
                  try clear c26b0
                  try clear c26b1
                  try clear c26b2
                  try clear hcv29
                  try clear hx208_0
                  try clear p2
                  try clear p208
                  try clear p25
                  try clear p6
                  try clear q208
                  try clear q25
                  obtain ⟨kq, x13_16, rfl, HA, HJ16, HO_9, HB⟩ := hcut
                  cases kq with
                  | zero => exact absurd HA.out (by simp [cubitlaw09_LexSpace.j3])
                  | succ kj16 =>
                    have H := HA.out
                    clear HA
                    simp only [cubitlaw09_LexSpace.j3] at H
                    have HC30 := Aside0.mk H
                    clear H
                    go_upto_region 14 with (fail)
                    go_cut [72] (fun v72 wc => ∃ (kq : Nat) (x72_29 : Bool), v72 = .bool x72_29 ∧ Aside0 (cubitlaw09_LexSpace.j4 kq a0 a3 t203 (Int.tmod x1_13 (t203.length : Int)) x13_16 x72_29 = some r) ∧ Aside0 (kq ≤ kj16) ∧ Aside0 (Kd.R k31 31 wc w.heap.size (fun _ => True) (.slice Ao18 t203.length co18) t203) ∧ Aside0 (Below w.heap.size w wc))
                    case first =>
                      have H := HC30.out
                      clear HC30
                      by_cases c31 : a3.toList = ([] : List UInt8)
                      · rw [if_pos c31] at H
                        have c31b0 : (a3.toList == ([] : List UInt8)) = true := beq_iff_eq.mpr c31
                        have c31b1 : (a3.toList != ([] : List UInt8)) = false := bne_eq_false_iff_eq.mpr c31
                        clear c31
                        (first | rw [c31b0] | (simp only [i64_w, i32_w]; rw [c31b0]) | skip)
                        have H' := Aside0.mk H
                        clear H
                        go_wp2
                        go_meet
                        case rel => exact ⟨_, (false), (by first | rfl | (simp; done) | (simp [*]; done)), H', ⟨by have := HJ7.out; have := HJ13.out; have := HJ16.out; first | omega | exact Nat.le_refl _⟩, ⟨by (with_reducible repeat (first | apply Kd.R_alloc | apply Kd.R_drewN | apply Kd.R_drew)); exact HO_9.out⟩, ⟨by repeat (first | (with_reducible first | exact HB.out | apply below_alloc | apply pw_below_drewN | apply below_drew1) | exact HB.out)⟩⟩
                      · rw [if_neg c31] at H
                        have c31b0 : (a3.toList == ([] : List UInt8)) = false := beq_eq_false_iff_ne.mpr c31
                        have c31b1 : (a3.toList != ([] : List UInt8)) = true := bne_iff_ne.mpr c31
                        (first | rw [c31b0] | (simp only [i64_w, i32_w]; rw [c31b0]) | skip)
                        have H' := Aside0.mk H
                        clear H
                        go_wp2
                        go_meet
                        case rel => exact ⟨_, (decide ((a3.size : Int) < 100)), (by first | rfl | (simp; done) | (simp [*]; done)), H', ⟨by have := HJ7.out; have := HJ13.out; have := HJ16.out; first | omega | exact Nat.le_refl _⟩, ⟨by (with_reducible repeat (first | apply Kd.R_alloc | apply Kd.R_drewN | apply Kd.R_drew)); exact HO_9.out⟩, ⟨by repeat (first | (with_reducible first | exact HB.out | apply below_alloc | apply pw_below_drewN | apply below_drew1) | exact HB.out)⟩⟩
                    case rest =>
                      clear HC30
                      try clear c1
                      try clear c2
                      try clear p2
                      try clear q2
                      try clear hx2
                      try clear hcv2
                      try clear c3
                      try clear c5
                      try clear c6
                      try clear p6
                      try clear c8
                      try clear c10
                      try clear c11
                      try clear c11b0
                      try clear c11b1
                      try clear c13
                      try clear c15
                      try clear c15b0
                      try clear c16
                      try clear c16b0
                      try clear c16b1
                      try clear c16b2
                      try clear c19
                      try clear c19b0
                      try clear c20
                      try clear c20b0
                      try clear p20
                      try clear q20
                      try clear hx20
                      try clear c21
                      try clear c21b0
                      try clear c23
                      try clear c23b0
                      try clear c24
                      try clear c24b0
                      try clear p25
                      try clear q25
                      try clear hx25
                      try clear c26
                      try clear c26b0
                      try clear c26b1
                      try clear c26b2
                      try clear hcv29
                      try clear c31
                      try clear c31b0
                      try clear c31b1
                      try clear hx208_0
                      try clear p2
                      try clear p20
                      try clear p208
                      try clear p25
                      try clear p6
                      try clear q2
                      try clear q20
                      try clear q208
                      try clear q25
                      obtain ⟨kq, x72_29, rfl, HA, HJ29, HO_9, HB⟩ := hcut
                      cases kq with
                      | zero => exact absurd HA.out (by simp [cubitlaw09_LexSpace.j4])
                      | succ kj29 =>
                        have H := HA.out
                        clear HA
                        simp only [cubitlaw09_LexSpace.j4] at H
                        have HC32 := Aside0.mk H
                        clear H
                        go_upto_if 72 with (fail)
                        go_cut [13] (fun v13 wc => ∃ (kq : Nat) (x13_31 : ByteArray), v13 = .string x13_31 ∧ Aside0 (cubitlaw09_LexSpace.j6 kq a0 t203 (Int.tmod x1_13 (t203.length : Int)) x13_31 = some r) ∧ Aside0 (kq ≤ kj29) ∧ Aside0 (Kd.R k31 31 wc w.heap.size (fun _ => True) (.slice Ao18 t203.length co18) t203) ∧ Aside0 (Below w.heap.size w wc))
                        case first =>
                          have H := HC32.out
                          clear HC32
                          by_cases c33 : x72_29 = true
                          · subst c33
                            have H1 : (if x13_16.size + 1 ≤ 9223372036854775807 then (cubitlaw09_LexSpace.l1 kj29 a0 a3 t203 (Int.tmod x1_13 (t203.length : Int)) (x13_16 ++ (⟨#[35]⟩ : ByteArray)) 0) else (none)) = some r := by rw [if_pos rfl] at H; exact H
                            clear H
                            have H := H1
                            clear H1
                            by_cases c34 : x13_16.size + 1 ≤ 9223372036854775807
                            · rw [if_pos c34] at H
                              have c34b0 := eq_true c34
                              have c34b1 : decide (x13_16.size + 1 ≤ 9223372036854775807) = true := decide_eq_true c34
                              try have c34b2 : (9223372036854775807 < x13_16.size + 1) = False := eq_false (Nat.not_lt.2 c34)
                              have H' := Aside0.mk H
                              clear H
                              go_wp2
                              go_loopg [13, 15] kj29 (fun kq v13 v15 w' => ∃ (x13_5 : ByteArray) (x15_5 : Int), v13 = .string x13_5 ∧ v15 = .int .i64 x15_5 ∧ Aside0 (cubitlaw09_LexSpace.l1 kq a0 a3 t203 (Int.tmod x1_13 (t203.length : Int)) x13_5 x15_5 = some r) ∧ Aside0 (kq ≤ kj29) ∧ Aside0 (Kd.R k31 31 w' w.heap.size (fun _ => True) (.slice Ao18 t203.length co18) t203) ∧ Aside0 (Below w.heap.size w w'))
                              case atStart => exact ⟨(x13_16 ++ (⟨#[35]⟩ : ByteArray)), (0), (by first | rfl | (simp; done) | (simp [*]; done)), (by first | rfl | (simp; done) | (simp [*]; done)), H', ⟨Nat.le_refl _⟩, ⟨by (with_reducible repeat (first | apply Kd.R_alloc | apply Kd.R_drewN | apply Kd.R_drew)); exact HO_9.out⟩, ⟨by repeat (first | (with_reducible first | exact HB.out | apply below_alloc | apply pw_below_drewN | apply below_drew1) | exact HB.out)⟩⟩
                              case round =>
                                clear H'
                                try clear c1
                                try clear c2
                                try clear p2
                                try clear q2
                                try clear hx2
                                try clear hcv2
                                try clear c3
                                try clear c5
                                try clear c6
                                try clear p6
                                try clear c8
                                try clear c10
                                try clear c11
                                try clear c11b0
                                try clear c11b1
                                try clear c13
                                try clear c15
                                try clear c15b0
                                try clear c16
                                try clear c16b0
                                try clear c16b1
                                try clear c16b2
                                try clear c19
                                try clear c19b0
                                try clear c20
                                try clear c20b0
                                try clear p20
                                try clear q20
                                try clear hx20
                                try clear c21
                                try clear c21b0
                                try clear c23
                                try clear c23b0
                                try clear c24
                                try clear c24b0
                                try clear p25
                                try clear q25
                                try clear hx25
                                try clear c26
                                try clear c26b0
                                try clear c26b1
                                try clear c26b2
                                try clear hcv29
                                try clear c31
                                try clear c31b0
                                try clear c31b1
                                try clear c33
                                try clear c34
                                try clear c34b0
                                try clear c34b1
                                try clear c34b2
                                try clear hx208_0
                                try clear p2
                                try clear p20
                                try clear p208
                                try clear p25
                                try clear p6
                                try clear q2
                                try clear q20
                                try clear q208
                                try clear q25
                                obtain ⟨x13_5, x15_5, rfl, rfl, HA, HK5, HO_9, HB⟩ := hrel
                                cases gk with
                                | zero => exact absurd HA.out (by simp [cubitlaw09_LexSpace.l1])
                                | succ k5 =>
                                  have H := HA.out
                                  clear HA
                                  simp only [cubitlaw09_LexSpace.l1] at H
                                  by_cases c35 : x15_5 < (a3.size : Int)
                                  · rw [if_pos c35] at H
                                    have c35b0 : decide (x15_5 < (a3.size : Int)) = true := decide_eq_true c35
                                    clear c35
                                    (first | rw [c35b0] | (simp only [i64_w, i32_w]; rw [c35b0]) | skip)
                                    by_cases c36 : 0 ≤ x15_5
                                    · rw [if_pos c36] at H
                                      have c36b0 : decide (0 ≤ x15_5) = true := decide_eq_true c36
                                      clear c36
                                      by_cases c38 : (bt a3 x15_5) = 10
                                      · rw [if_pos c38] at H
                                        have c38b0 : ((bt a3 x15_5) == 10) = true := beq_iff_eq.mpr c38
                                        have c38b1 : ((bt a3 x15_5) != 10) = false := bne_eq_false_iff_eq.mpr c38
                                        clear c38
                                        have H' := Aside0.mk H
                                        clear H
                                        have p37 : 0 ≤ (x15_5 : Int) := of_decide_eq_true (by first | (with_reducible assumption) | assumption)
                                        have q37 : x15_5 < (a3.size : Int) := of_decide_eq_true (by first | (with_reducible assumption) | assumption)
                                        have hx37 := bt_at a3 x15_5
                                        replace p37 := eq_true p37
                                        replace q37 := eq_true q37
                                        go_wp2
                                        go_roundg k5
                                        case measure => have := HJ7.out; have := HJ13.out; have := HJ16.out; have := HJ29.out; have := HK5.out; omega
                                        case rel => exact ⟨(x13_5), (wrap64 (x15_5 + 1)), (by first | rfl | (simp; done) | (simp [*]; done)), (by first | rfl | (simp; done) | (simp [*]; done)), H', ⟨by have := HJ7.out; have := HJ13.out; have := HJ16.out; have := HJ29.out; have := HK5.out; omega⟩, ⟨by (with_reducible repeat (first | apply Kd.R_alloc | apply Kd.R_drewN | apply Kd.R_drew)); exact HO_9.out⟩, ⟨by repeat (first | (with_reducible first | exact HB.out | apply below_alloc | apply pw_below_drewN | apply below_drew1) | exact HB.out)⟩⟩
                                      · rw [if_neg c38] at H
                                        have c38b0 : ((bt a3 x15_5) == 10) = false := beq_eq_false_iff_ne.mpr c38
                                        have c38b1 : ((bt a3 x15_5) != 10) = true := bne_iff_ne.mpr c38
                                        have c39b0 := eq_true (of_decide_eq_true (by first | (with_reducible assumption) | assumption) : 0 ≤ x15_5)
                                        by_cases c40 : x15_5 ≤ (wrap64 (x15_5 + 1))
                                        · rw [if_pos c40] at H
                                          have c40b0 := eq_true c40
                                          have c40b1 : decide (x15_5 ≤ (wrap64 (x15_5 + 1))) = true := decide_eq_true c40
                                          by_cases c41 : (wrap64 (x15_5 + 1)) ≤ (a3.size : Int)
                                          · rw [if_pos c41] at H
                                            have c41b0 := eq_true c41
                                            have c41b1 : decide ((wrap64 (x15_5 + 1)) ≤ (a3.size : Int)) = true := decide_eq_true c41
                                            by_cases c42 : x13_5.size + (a3.extract (x15_5 : Int).toNat ((wrap64 (x15_5 + 1)) : Int).toNat).size ≤ 9223372036854775807
                                            · rw [if_pos c42] at H
                                              have c42b0 := eq_true c42
                                              have c42b1 : decide (x13_5.size + (a3.extract (x15_5 : Int).toNat ((wrap64 (x15_5 + 1)) : Int).toNat).size ≤ 9223372036854775807) = true := decide_eq_true c42
                                              try have c42b2 : (9223372036854775807 < x13_5.size + (a3.extract (x15_5 : Int).toNat ((wrap64 (x15_5 + 1)) : Int).toNat).size) = False := eq_false (Nat.not_lt.2 c42)
                                              have H' := Aside0.mk H
                                              clear H
                                              have p37 : 0 ≤ (x15_5 : Int) := of_decide_eq_true (by first | (with_reducible assumption) | assumption)
                                              have q37 : x15_5 < (a3.size : Int) := of_decide_eq_true (by first | (with_reducible assumption) | assumption)
                                              have hx37 := bt_at a3 x15_5
                                              replace p37 := eq_true p37
                                              replace q37 := eq_true q37
                                              go_wp2
                                              go_roundg k5
                                              case measure => have := HJ7.out; have := HJ13.out; have := HJ16.out; have := HJ29.out; have := HK5.out; omega
                                              case rel => exact ⟨(x13_5 ++ (a3.extract (x15_5 : Int).toNat ((wrap64 (x15_5 + 1)) : Int).toNat)), (wrap64 (x15_5 + 1)), (by first | rfl | (simp; done) | (simp [*]; done)), (by first | rfl | (simp; done) | (simp [*]; done)), H', ⟨by have := HJ7.out; have := HJ13.out; have := HJ16.out; have := HJ29.out; have := HK5.out; omega⟩, ⟨by (with_reducible repeat (first | apply Kd.R_alloc | apply Kd.R_drewN | apply Kd.R_drew)); exact HO_9.out⟩, ⟨by repeat (first | (with_reducible first | exact HB.out | apply below_alloc | apply pw_below_drewN | apply below_drew1) | exact HB.out)⟩⟩
                                            · rw [if_neg c42] at H
                                              exact absurd H (by simp)
                                          · rw [if_neg c41] at H
                                            exact absurd H (by simp)
                                        · rw [if_neg c40] at H
                                          exact absurd H (by simp)
                                    · rw [if_neg c36] at H
                                      exact absurd H (by simp)
                                  · rw [if_neg c35] at H
                                    have c35b0 : decide (x15_5 < (a3.size : Int)) = false := decide_eq_false c35
                                    clear c35
                                    (first | rw [c35b0] | (simp only [i64_w, i32_w]; rw [c35b0]) | skip)
                                    by_cases c43 : x13_5.size + 1 ≤ 9223372036854775807
                                    · rw [if_pos c43] at H
                                      have c43b0 := eq_true c43
                                      have c43b1 : decide (x13_5.size + 1 ≤ 9223372036854775807) = true := decide_eq_true c43
                                      try have c43b2 : (9223372036854775807 < x13_5.size + 1) = False := eq_false (Nat.not_lt.2 c43)
                                      have H' := Aside0.mk H
                                      clear H
                                      go_wp2
                                      go_meet
                                      case rel => exact ⟨_, (x13_5 ++ (⟨#[10]⟩ : ByteArray)), (by first | rfl | (simp; done) | (simp [*]; done)), H', ⟨by have := HJ7.out; have := HJ13.out; have := HJ16.out; have := HJ29.out; have := HK5.out; first | omega | exact Nat.le_refl _⟩, ⟨by (with_reducible repeat (first | apply Kd.R_alloc | apply Kd.R_drewN | apply Kd.R_drew)); exact HO_9.out⟩, ⟨by repeat (first | (with_reducible first | exact HB.out | apply below_alloc | apply pw_below_drewN | apply below_drew1) | exact HB.out)⟩⟩
                                    · rw [if_neg c43] at H
                                      exact absurd H (by simp)
                            · rw [if_neg c34] at H
                              exact absurd H (by simp)
                          · replace c33 := Bool.eq_false_iff.mpr c33
                            subst c33
                            have H1 : (cubitlaw09_LexSpace.j6 kj29 a0 t203 (Int.tmod x1_13 (t203.length : Int)) x13_16) = some r := by rw [if_neg (show ¬ (false = true) by decide)] at H; exact H
                            clear H
                            have H := H1
                            clear H1
                            have H' := Aside0.mk H
                            clear H
                            go_wp2
                            go_meet
                            case rel => exact ⟨_, (x13_16), (by first | rfl | (simp; done) | (simp [*]; done)), H', ⟨by have := HJ7.out; have := HJ13.out; have := HJ16.out; have := HJ29.out; first | omega | exact Nat.le_refl _⟩, ⟨by (with_reducible repeat (first | apply Kd.R_alloc | apply Kd.R_drewN | apply Kd.R_drew)); exact HO_9.out⟩, ⟨by repeat (first | (with_reducible first | exact HB.out | apply below_alloc | apply pw_below_drewN | apply below_drew1) | exact HB.out)⟩⟩
                        case rest =>
                          clear HC32
                          try clear c1
                          try clear c2
                          try clear p2
                          try clear q2
                          try clear hx2
                          try clear hcv2
                          try clear c3
                          try clear p3
                          try clear q3
                          try clear hx3
                          try clear c4
                          try clear c5
                          try clear c6
                          try clear p6
                          try clear c8
                          try clear c10
                          try clear c11
                          try clear c11b0
                          try clear c11b1
                          try clear c13
                          try clear c15
                          try clear c15b0
                          try clear c16
                          try clear c16b0
                          try clear c16b1
                          try clear c16b2
                          try clear c19
                          try clear c19b0
                          try clear c20
                          try clear c20b0
                          try clear p20
                          try clear q20
                          try clear hx20
                          try clear c21
                          try clear c21b0
                          try clear c23
                          try clear c23b0
                          try clear c24
                          try clear c24b0
                          try clear p25
                          try clear q25
                          try clear hx25
                          try clear c26
                          try clear c26b0
                          try clear c26b1
                          try clear c26b2
                          try clear hcv29
                          try clear c31
                          try clear c31b0
                          try clear c31b1
                          try clear c33
                          try clear c34
                          try clear c34b0
                          try clear c34b1
                          try clear c34b2
                          try clear c35
                          try clear c35b0
                          try clear c36
                          try clear c36b0
                          try clear p37
                          try clear q37
                          try clear hx37
                          try clear c38
                          try clear c38b0
                          try clear c38b1
                          try clear c39
                          try clear c39b0
                          try clear c40
                          try clear c40b0
                          try clear c40b1
                          try clear c41
                          try clear c41b0
                          try clear c41b1
                          try clear c42
                          try clear c42b0
                          try clear c42b1
                          try clear c42b2
                          try clear c43
                          try clear c43b0
                          try clear c43b1
                          try clear c43b2
                          try clear hx208_0
                          try clear p2
                          try clear p20
                          try clear p208
                          try clear p25
                          try clear p37
                          try clear p6
                          try clear q2
                          try clear q20
                          try clear q208
                          try clear q25
                          try clear q37
                          obtain ⟨kq, x13_31, rfl, HA, HJ31, HO_9, HB⟩ := hcut
                          cases kq with
                          | zero => exact absurd HA.out (by simp [cubitlaw09_LexSpace.j6])
                          | succ kj31 =>
                            have H := HA.out
                            clear HA
                            simp only [cubitlaw09_LexSpace.j6] at H
                            obtain ⟨ji44, hji44⟩ : ∃ j_ : Int, (Int.tmod x1_13 (t203.length : Int)) = j_ := ⟨_, rfl⟩
                            replace H : (if 0 ≤ (ji44) then (if (ji44) < (t203.length : Int) then (if (wrap64 ((a0.size : Int) + (x13_31.size : Int))) > 65536 then (some true) else (if 0 ≤ ((rd_T31 t203 (ji44)).f2) then (if ((rd_T31 t203 (ji44)).f2) ≤ (a0.size : Int) then (if (a0.extract 0 (((rd_T31 t203 (ji44)).f2) : Int).toNat).size + x13_31.size ≤ 9223372036854775807 then (if ((a0.extract 0 (((rd_T31 t203 (ji44)).f2) : Int).toNat) ++ x13_31).size + (a0.extract (((rd_T31 t203 (ji44)).f2) : Int).toNat a0.size).size ≤ 9223372036854775807 then ((lex_Scan.f kj31 (((a0.extract 0 (((rd_T31 t203 (ji44)).f2) : Int).toNat) ++ x13_31) ++ (a0.extract (((rd_T31 t203 (ji44)).f2) : Int).toNat a0.size))).bind fun bt213 => (if bt213.2.2 = 0 then (cubitlaw09_LexSpace.j7 kj31 t203 (ji44) x13_31 bt213.1 ((bt213.1.length : Int) != (t203.length : Int))) else (cubitlaw09_LexSpace.j7 kj31 t203 (ji44) x13_31 bt213.1 true))) else (none)) else (none)) else (none)) else (none))) else (none)) else (none)) = some r := by first | (rw [hji44] at H; exact H) | (simp only [hji44] at H ⊢; exact H)
                            by_cases c45 : 0 ≤ (ji44)
                            · rw [if_pos c45] at H
                              have c45b0 : decide (0 ≤ (ji44)) = true := decide_eq_true c45
                              clear c45
                              by_cases c46 : (ji44) < (t203.length : Int)
                              · rw [if_pos c46] at H
                                have c46b0 : decide ((ji44) < (t203.length : Int)) = true := decide_eq_true c46
                                clear c46
                                by_cases c47 : (wrap64 ((a0.size : Int) + (x13_31.size : Int))) > 65536
                                · rw [if_pos c47] at H
                                  have c47b0 : decide (65536 < (wrap64 ((a0.size : Int) + (x13_31.size : Int)))) = true := decide_eq_true c47
                                  clear c47
                                  obtain rfl := Option.some.inj H
                                  have p212 : 0 ≤ ((ji44) : Int) := of_decide_eq_true (by first | (with_reducible assumption) | assumption)
                                  have q212 : (ji44) < (t203.length : Int) := of_decide_eq_true (by first | (with_reducible assumption) | assumption)
                                  obtain ⟨ad212, e212, hx212_0, hx212_1, hx212_2⟩ := at_T31 (Kd.R_reads' HO_9.out).2.2 (ji44) p212 q212
                                  cases e212
                                  replace p212 := eq_true p212
                                  replace q212 := eq_true q212
                                  go_wp2
                                  go_ret
                                  exact ⟨by first | rfl | (simp [errW_none, errW_some] <;> rfl) | (simp only [← hji44]; first | rfl | (simp [errW_none, errW_some] <;> rfl)) | (simp [*, errW_none, errW_some] <;> rfl), by repeat (first | (with_reducible first | exact HB.out | apply below_alloc | apply pw_below_drewN | apply below_drew1) | exact HB.out)⟩
                                · rw [if_neg c47] at H
                                  have c47b0 : decide (65536 < (wrap64 ((a0.size : Int) + (x13_31.size : Int)))) = false := decide_eq_false c47
                                  clear c47
                                  by_cases c48 : 0 ≤ ((rd_T31 t203 (ji44)).f2)
                                  · rw [if_pos c48] at H
                                    have c48b0 := eq_true c48
                                    have c48b1 : decide (0 ≤ ((rd_T31 t203 (ji44)).f2)) = true := decide_eq_true c48
                                    clear c48
                                    by_cases c49 : ((rd_T31 t203 (ji44)).f2) ≤ (a0.size : Int)
                                    · rw [if_pos c49] at H
                                      have c49b0 := eq_true c49
                                      have c49b1 : decide (((rd_T31 t203 (ji44)).f2) ≤ (a0.size : Int)) = true := decide_eq_true c49
                                      clear c49
                                      by_cases c50 : (a0.extract 0 (((rd_T31 t203 (ji44)).f2) : Int).toNat).size + x13_31.size ≤ 9223372036854775807
                                      · rw [if_pos c50] at H
                                        have c50b0 := eq_true c50
                                        have c50b1 : decide ((a0.extract 0 (((rd_T31 t203 (ji44)).f2) : Int).toNat).size + x13_31.size ≤ 9223372036854775807) = true := decide_eq_true c50
                                        try have c50b2 : (9223372036854775807 < (a0.extract 0 (((rd_T31 t203 (ji44)).f2) : Int).toNat).size + x13_31.size) = False := eq_false (Nat.not_lt.2 c50)
                                        have c51b0 := eq_true (of_decide_eq_true (by first | (with_reducible assumption) | assumption) : 0 ≤ ((rd_T31 t203 (ji44)).f2))
                                        have c52b0 := eq_true (of_decide_eq_true (by first | (with_reducible assumption) | assumption) : ((rd_T31 t203 (ji44)).f2) ≤ (a0.size : Int))
                                        by_cases c53 : ((a0.extract 0 (((rd_T31 t203 (ji44)).f2) : Int).toNat) ++ x13_31).size + (a0.extract (((rd_T31 t203 (ji44)).f2) : Int).toNat a0.size).size ≤ 9223372036854775807
                                        · rw [if_pos c53] at H
                                          have c53b0 := eq_true c53
                                          have c53b1 : decide (((a0.extract 0 (((rd_T31 t203 (ji44)).f2) : Int).toNat) ++ x13_31).size + (a0.extract (((rd_T31 t203 (ji44)).f2) : Int).toNat a0.size).size ≤ 9223372036854775807) = true := decide_eq_true c53
                                          try have c53b2 : (9223372036854775807 < ((a0.extract 0 (((rd_T31 t203 (ji44)).f2) : Int).toNat) ++ x13_31).size + (a0.extract (((rd_T31 t203 (ji44)).f2) : Int).toNat a0.size).size) = False := eq_false (Nat.not_lt.2 c53)
                                          have z0_ : (((rd_T31 t203 (ji44)).f2)).toNat ≤ a0.size := by have h_ : (((rd_T31 t203 (ji44)).f2)) ≤ (a0.size : Int) := of_decide_eq_true (by first | (with_reducible assumption) | assumption); omega
                                          have z1_ : (9223372036854775807 < (((rd_T31 t203 (ji44)).f2)).toNat + x13_31.size) = False := eq_false (by have h_ : ((a0.extract 0 (((rd_T31 t203 (ji44)).f2) : Int).toNat) ++ x13_31).size + (a0.extract (((rd_T31 t203 (ji44)).f2) : Int).toNat a0.size).size ≤ 9223372036854775807 := of_decide_eq_true (by first | (with_reducible assumption) | assumption); rw [ByteArray.size_append, ByteArray.size_extract, ByteArray.size_extract] at h_; omega)
                                          have z2_ : (9223372036854775807 < (((rd_T31 t203 (ji44)).f2)).toNat + x13_31.size + (a0.size - (((rd_T31 t203 (ji44)).f2)).toNat)) = False := eq_false (by have h_ : ((a0.extract 0 (((rd_T31 t203 (ji44)).f2) : Int).toNat) ++ x13_31).size + (a0.extract (((rd_T31 t203 (ji44)).f2) : Int).toNat a0.size).size ≤ 9223372036854775807 := of_decide_eq_true (by first | (with_reducible assumption) | assumption); rw [ByteArray.size_append, ByteArray.size_extract, ByteArray.size_extract] at h_; omega)
                                          replace H := Option.bind_eq_some_iff.mp H
                                          obtain ⟨⟨t213, t214, t215⟩, A540, H⟩ := H
                                          replace H : (if t215 = 0 then (cubitlaw09_LexSpace.j7 kj31 t203 (ji44) x13_31 t213 ((t213.length : Int) != (t203.length : Int))) else (cubitlaw09_LexSpace.j7 kj31 t203 (ji44) x13_31 t213 true)) = some r := H
                                          have A54 := Aside0.mk A540
                                          clear A540
                                          have HC55 := Aside0.mk H
                                          clear H
                                          have p212 : 0 ≤ ((ji44) : Int) := of_decide_eq_true (by first | (with_reducible assumption) | assumption)
                                          have q212 : (ji44) < (t203.length : Int) := of_decide_eq_true (by first | (with_reducible assumption) | assumption)
                                          obtain ⟨ad212, e212, hx212_0, hx212_1, hx212_2⟩ := at_T31 (Kd.R_reads' HO_9.out).2.2 (ji44) p212 q212
                                          cases e212
                                          replace p212 := eq_true p212
                                          replace q212 := eq_true q212
                                          try go_wp2
                                          have n0_ := Aside0.mk (Kd.R_drew HO_9.out)
                                          have n1_ := Aside0.mk (below_drew1 HB.out)
                                          clear HO_9
                                          clear HB
                                          have HO_9 := n0_
                                          have HB := n1_
                                          clear n0_ n1_
                                          refine start_ (n := 17) (S := fun w' => True) (ds := []) #[false, false, false, false, false, false, false, false, false, false, false, false, false, false, false, false, false] (by kernel_rfl) rfl rfl trivial (fun hHeld => ?_); refine with_tabW cubitlaw09_LexSpace.tab25 cubitlaw09_LexSpace.bits25 (fun HT_ HW_ => ?_)
                                          generalize wc.drew = w56 at HO_9 HB hHeld ⊢
                                          refine pure_ (i := 0) (N := some 106) (v := ?_) (a' := ?_) #[true, false, false, false, false, false, false, false, false, false, false, false, false, false, false, false, false] rfl rfl (any_of HT_.out (by kernel_rfl)) (fun _ _ _ h => h) (Or.inl ⟨by rfl, ?_⟩) ?_ ?_
                                          rotate_left
                                          · intro w'
                                            go_simp
                                            with_reducible rfl
                                          rotate_left
                                          · simp only [Act.put, List.setIfInBounds_toArray, List.set_cons_zero, List.set_cons_succ, i64_w, i32_w]
                                            rfl
                                          refine pure_ (i := 1) (N := some 107) (v := ?_) (a' := ?_) #[true, true, false, false, false, false, false, false, false, false, false, false, false, false, false, false, false] rfl rfl (any_of HT_.out (by kernel_rfl)) (fun _ _ _ h => h) (Or.inl ⟨by rfl, ?_⟩) ?_ ?_
                                          rotate_left
                                          · intro w'
                                            go_simp
                                            with_reducible rfl
                                          rotate_left
                                          · simp only [Act.put, List.setIfInBounds_toArray, List.set_cons_zero, List.set_cons_succ, i64_w, i32_w]
                                            rfl
                                          refine pure_ (i := 2) (N := some 108) (v := ?_) (a' := ?_) #[true, true, true, false, false, false, false, false, false, false, false, false, false, false, false, false, false] rfl rfl (any_of HT_.out (by kernel_rfl)) (fun _ _ _ h => h) (Or.inl ⟨by rfl, ?_⟩) ?_ ?_
                                          rotate_left
                                          · intro w'
                                            go_simp
                                            with_reducible rfl
                                          rotate_left
                                          · simp only [Act.put, List.setIfInBounds_toArray, List.set_cons_zero, List.set_cons_succ, i64_w, i32_w]
                                            rfl
                                          refine pure_ (i := 3) (N := some 109) (v := ?_) (a' := ?_) #[true, true, true, true, false, false, false, false, false, false, false, false, false, false, false, false, false] rfl rfl (any_of HT_.out (by kernel_rfl)) (fun _ _ _ h => h) (Or.inl ⟨by rfl, ?_⟩) ?_ ?_
                                          rotate_left
                                          · intro w'
                                            go_simp
                                            with_reducible rfl
                                          rotate_left
                                          · simp only [Act.put, List.setIfInBounds_toArray, List.set_cons_zero, List.set_cons_succ, i64_w, i32_w]
                                            rfl
                                          refine pure_ (i := 4) (N := some 110) (v := ?_) (a' := ?_) #[true, true, true, true, true, false, false, false, false, false, false, false, false, false, false, false, false] rfl rfl (any_of HT_.out (by kernel_rfl)) (fun _ _ _ h => h) (Or.inl ⟨by rfl, ?_⟩) ?_ ?_
                                          rotate_left
                                          · intro w'
                                            go_simp
                                            with_reducible rfl
                                          rotate_left
                                          · simp only [Act.put, List.setIfInBounds_toArray, List.set_cons_zero, List.set_cons_succ, i64_w, i32_w]
                                            rfl
                                          refine pure_ (i := 5) (N := some 111) (v := ?_) (a' := ?_) #[true, true, true, true, true, true, false, false, false, false, false, false, false, false, false, false, false] rfl rfl (any_of HT_.out (by kernel_rfl)) (fun _ _ _ h => h) (Or.inl ⟨by rfl, ?_⟩) ?_ ?_
                                          rotate_left
                                          · intro w'
                                            go_simp
                                            with_reducible rfl
                                          rotate_left
                                          · simp only [Act.put, List.setIfInBounds_toArray, List.set_cons_zero, List.set_cons_succ, i64_w, i32_w]
                                            rfl
                                          refine pure_ (i := 6) (N := some 112) (v := ?_) (a' := ?_) #[true, true, true, true, true, true, true, false, false, false, false, false, false, false, false, false, false] rfl rfl (any_of HT_.out (by kernel_rfl)) (fun _ _ _ h => h) (Or.inl ⟨by rfl, ?_⟩) ?_ ?_
                                          rotate_left
                                          · intro w'
                                            go_simp
                                            with_reducible rfl
                                          rotate_left
                                          · simp only [Act.put, List.setIfInBounds_toArray, List.set_cons_zero, List.set_cons_succ, i64_w, i32_w]
                                            rfl
                                          refine pure_ (i := 7) (N := some 113) (v := ?_) (a' := ?_) #[true, true, true, true, true, true, true, true, false, false, false, false, false, false, false, false, false] rfl rfl (any_of HT_.out (by kernel_rfl)) (fun _ _ _ h => h) (Or.inl ⟨by rfl, ?_⟩) ?_ ?_
                                          rotate_left
                                          · intro w'
                                            go_simp
                                            with_reducible rfl
                                          rotate_left
                                          · simp only [Act.put, List.setIfInBounds_toArray, List.set_cons_zero, List.set_cons_succ, i64_w, i32_w]
                                            rfl
                                          refine pure_ (i := 8) (N := some 114) (v := ?_) (a' := ?_) #[true, true, true, true, true, true, true, true, true, false, false, false, false, false, false, false, false] rfl rfl (any_of HT_.out (by kernel_rfl)) (fun _ _ _ h => h) (Or.inl ⟨by rfl, ?_⟩) ?_ ?_
                                          rotate_left
                                          · intro w'
                                            go_simp
                                            with_reducible rfl
                                          rotate_left
                                          · simp only [Act.put, List.setIfInBounds_toArray, List.set_cons_zero, List.set_cons_succ, i64_w, i32_w]
                                            rfl
                                          refine one_ (i := 9) (N := some 115) #[true, true, true, true, true, true, true, true, true, true, false, false, false, false, false, false, false] rfl rfl (one_of HT_.out (by kernel_rfl)) (by decide) (fun K hK => ?_)
                                          refine goes_ Try.func10 (by kernel_rfl) rfl #[.string (((a0.extract 0 (((rd_T31 t203 (ji44)).f2) : Int).toNat) ++ x13_31) ++ (a0.extract (((rd_T31 t203 (ji44)).f2) : Int).toNat a0.size))] (by rfl) rfl rfl (by (try simp only [List.map_toArray, List.map_cons, List.map_nil]); first | done | (simp only [hji44]; rfl) | rfl | (simp only [List.length_drop, List.length_take]; rfl)) ?_
                                          with_reducible refine (lex_Scan.calls kj31 (((a0.extract 0 (((rd_T31 t203 (ji44)).f2) : Int).toNat) ++ x13_31) ++ (a0.extract (((rd_T31 t203 (ji44)).f2) : Int).toNat a0.size)) t213 t214 t215 _ A54.out).mono ?_
                                          rintro e w57 ⟨v216, rfl, ho0, hb⟩
                                          refine ⟨_, rfl, ?_⟩
                                          have n0_ := Aside0.mk (Kd.R_elder' (by (with_reducible repeat (first | apply Kd.R_alloc | apply Kd.R_drewN | apply Kd.R_drew)); exact HO_9.out) (Kd.R_base ho0) hb)
                                          have n1_ := Aside0.mk (Kd.R_lower (Kd.R_new' ho0 (Kd.R_lt (by (with_reducible repeat (first | apply Kd.R_alloc | apply Kd.R_drewN | apply Kd.R_drew)); exact HO_9.out))) (below_size (by repeat (first | (with_reducible first | exact HB.out | apply below_alloc | apply pw_below_drewN | apply below_drew1) | exact HB.out))))
                                          have n2_ := Aside0.mk (below_step (by repeat (first | (with_reducible first | exact HB.out | apply below_alloc | apply pw_below_drewN | apply below_drew1) | exact HB.out)) hb)
                                          clear HO_9
                                          clear HB
                                          have HO_9 := n0_
                                          have HO217 := n1_
                                          have HB := n2_
                                          clear n0_ n1_ n2_
                                          (try clear hb)
                                          (try clear hb2)
                                          (try clear hk)
                                          (try clear hi)
                                          (try clear ho0)
                                          refine hK.out _ _ trivial (fun hHeld => ?_)
                                          clear hK K
                                          refine norm_ (a' := ?_) ?_ ?_
                                          rotate_left
                                          · show Act.put _ (some 115) _ = _
                                            simp only [Act.put, List.setIfInBounds_toArray, List.set_cons_zero, List.set_cons_succ, i64_w, i32_w]
                                            rfl
                                          refine pure_ (i := 10) (N := some 105) (v := ?_) (a' := ?_) #[true, true, true, true, true, true, true, true, true, true, true, false, false, false, false, false, false] rfl rfl (any_of HT_.out (by kernel_rfl)) (fun _ _ _ h => h) (Or.inl ⟨by rfl, ?_⟩) ?_ ?_
                                          rotate_left
                                          · intro w'
                                            go_simp
                                            with_reducible rfl
                                          rotate_left
                                          · simp only [Act.put, List.setIfInBounds_toArray, List.set_cons_zero, List.set_cons_succ, i64_w, i32_w]
                                            rfl
                                          refine pure_ (i := 11) (N := some 116) (v := ?_) (a' := ?_) #[true, true, true, true, true, true, true, true, true, true, true, true, false, false, false, false, false] rfl rfl (any_of HT_.out (by kernel_rfl)) (fun _ _ _ h => h) (Or.inl ⟨by rfl, ?_⟩) ?_ ?_
                                          rotate_left
                                          · intro w'
                                            go_simp
                                            with_reducible rfl
                                          rotate_left
                                          · simp only [Act.put, List.setIfInBounds_toArray, List.set_cons_zero, List.set_cons_succ, i64_w, i32_w]
                                            rfl
                                          refine pure_ (i := 12) (N := some 117) (v := ?_) (a' := ?_) #[true, true, true, true, true, true, true, true, true, true, true, true, true, false, false, false, false] rfl rfl (any_of HT_.out (by kernel_rfl)) (fun _ _ _ h => h) (Or.inl ⟨by rfl, ?_⟩) ?_ ?_
                                          rotate_left
                                          · intro w'
                                            go_simp
                                            with_reducible rfl
                                          rotate_left
                                          · simp only [Act.put, List.setIfInBounds_toArray, List.set_cons_zero, List.set_cons_succ, i64_w, i32_w]
                                            rfl
                                          refine pure_ (i := 13) (N := some 118) (v := ?_) (a' := ?_) #[true, true, true, true, true, true, true, true, true, true, true, true, true, true, false, false, false] rfl rfl (any_of HT_.out (by kernel_rfl)) (fun _ _ _ h => h) (Or.inl ⟨by rfl, ?_⟩) ?_ ?_
                                          rotate_left
                                          · intro w'
                                            go_simp
                                            with_reducible rfl
                                          rotate_left
                                          · simp only [Act.put, List.setIfInBounds_toArray, List.set_cons_zero, List.set_cons_succ, i64_w, i32_w]
                                            rfl
                                          refine pure_ (i := 14) (N := some 17) (v := ?_) (a' := ?_) #[true, true, true, true, true, true, true, true, true, true, true, true, true, true, true, false, false] rfl rfl (any_of HT_.out (by kernel_rfl)) (fun _ _ _ h => h) (Or.inl ⟨by rfl, ?_⟩) ?_ ?_
                                          rotate_left
                                          · intro w'
                                            go_simp
                                            with_reducible rfl
                                          rotate_left
                                          · simp only [Act.put, List.setIfInBounds_toArray, List.set_cons_zero, List.set_cons_succ, i64_w, i32_w]
                                            rfl
                                          refine pure_ (i := 15) (N := some 18) (v := ?_) (a' := ?_) #[true, true, true, true, true, true, true, true, true, true, true, true, true, true, true, true, false] rfl rfl (any_of HT_.out (by kernel_rfl)) (fun _ _ _ h => h) (Or.inl ⟨by rfl, ?_⟩) ?_ ?_
                                          rotate_left
                                          · intro w'
                                            go_simp
                                            with_reducible rfl
                                          rotate_left
                                          · simp only [Act.put, List.setIfInBounds_toArray, List.set_cons_zero, List.set_cons_succ, i64_w, i32_w]
                                            rfl
                                          refine pure_ (i := 16) (N := some 19) (v := ?_) (a' := ?_) #[true, true, true, true, true, true, true, true, true, true, true, true, true, true, true, true, true] rfl rfl (any_of HT_.out (by kernel_rfl)) (fun _ _ _ h => h) (Or.inl ⟨by rfl, ?_⟩) ?_ ?_
                                          rotate_left
                                          · intro w'
                                            go_simp
                                            with_reducible rfl
                                          rotate_left
                                          · simp only [Act.put, List.setIfInBounds_toArray, List.set_cons_zero, List.set_cons_succ, i64_w, i32_w]
                                            rfl
                                          refine done_ (done_of HT_.out (by kernel_rfl)) ?_
                                          go_upto_region 26 with (fail)
                                          go_cut [127] (fun v127 wc => ∃ (kq : Nat) (x127_54 : Bool), v127 = .bool x127_54 ∧ Aside0 (cubitlaw09_LexSpace.j7 kq t203 (ji44) x13_31 t213 x127_54 = some r) ∧ Aside0 (kq ≤ kj31) ∧ Aside0 (Kd.R k31 31 wc w.heap.size (fun k_ => some k_ ≠ (v216 : Value).ownBlock) (.slice (some ad212) t203.length co18) t203) ∧ Aside0 (Kd.R k31 31 wc w.heap.size (fun k_ => some k_ ≠ ((.slice (some ad212) t203.length co18) : Value).ownBlock) v216 t213) ∧ Aside0 (Below w.heap.size w wc))
                                          case first =>
                                            have H := HC55.out
                                            clear HC55
                                            by_cases c58 : t215 = 0
                                            · rw [if_pos c58] at H
                                              have c58b0 : (t215 == 0) = true := beq_iff_eq.mpr c58
                                              have c58b1 : (t215 != 0) = false := bne_eq_false_iff_eq.mpr c58
                                              clear c58
                                              (first | rw [c58b0] | (simp only [i64_w, i32_w]; rw [c58b0]) | skip)
                                              have H' := Aside0.mk H
                                              clear H
                                              obtain ⟨Ao59, co59, eo59⟩ := Kd.R_slice HO217.out
                                              subst eo59
                                              go_wp2
                                              go_meet
                                              case rel => exact ⟨_, (((t213.length : Int) != (t203.length : Int))), (by first | rfl | (simp; done) | (simp [*]; done)), H', ⟨by have := HJ7.out; have := HJ13.out; have := HJ16.out; have := HJ29.out; have := HJ31.out; first | omega | exact Nat.le_refl _⟩, ⟨by (with_reducible repeat (first | apply Kd.R_alloc | apply Kd.R_drewN | apply Kd.R_drew)); exact Kd.R_mono HO_9.out (fun _ hk => hk.2)⟩, ⟨by (with_reducible repeat (first | apply Kd.R_alloc | apply Kd.R_drewN | apply Kd.R_drew)); exact Kd.R_mono HO217.out (fun _ hk => hk.2)⟩, ⟨by repeat (first | (with_reducible first | exact HB.out | apply below_alloc | apply pw_below_drewN | apply below_drew1) | exact HB.out)⟩⟩
                                            · rw [if_neg c58] at H
                                              have c58b0 : (t215 == 0) = false := beq_eq_false_iff_ne.mpr c58
                                              have c58b1 : (t215 != 0) = true := bne_iff_ne.mpr c58
                                              (first | rw [c58b0] | (simp only [i64_w, i32_w]; rw [c58b0]) | skip)
                                              have H' := Aside0.mk H
                                              clear H
                                              go_wp2
                                              go_meet
                                              case rel => exact ⟨_, (true), (by first | rfl | (simp; done) | (simp [*]; done)), H', ⟨by have := HJ7.out; have := HJ13.out; have := HJ16.out; have := HJ29.out; have := HJ31.out; first | omega | exact Nat.le_refl _⟩, ⟨by (with_reducible repeat (first | apply Kd.R_alloc | apply Kd.R_drewN | apply Kd.R_drew)); exact Kd.R_mono HO_9.out (fun _ hk => hk.2)⟩, ⟨by (with_reducible repeat (first | apply Kd.R_alloc | apply Kd.R_drewN | apply Kd.R_drew)); exact Kd.R_mono HO217.out (fun _ hk => hk.2)⟩, ⟨by repeat (first | (with_reducible first | exact HB.out | apply below_alloc | apply pw_below_drewN | apply below_drew1) | exact HB.out)⟩⟩
                                          case rest =>
                                            clear HC55
                                            try clear c1
                                            try clear c2
                                            try clear p2
                                            try clear q2
                                            try clear hx2
                                            try clear hcv2
                                            try clear c3
                                            try clear p3
                                            try clear q3
                                            try clear hx3
                                            try clear c4
                                            try clear c5
                                            try clear c6
                                            try clear p6
                                            try clear c8
                                            try clear c10
                                            try clear c11
                                            try clear c11b0
                                            try clear c11b1
                                            try clear c13
                                            try clear c15
                                            try clear c15b0
                                            try clear c16
                                            try clear c16b0
                                            try clear c16b1
                                            try clear c16b2
                                            try clear c19
                                            try clear c19b0
                                            try clear c20
                                            try clear c20b0
                                            try clear p20
                                            try clear q20
                                            try clear hx20
                                            try clear c21
                                            try clear c21b0
                                            try clear p21
                                            try clear q21
                                            try clear hx21
                                            try clear c23
                                            try clear c23b0
                                            try clear c24
                                            try clear c24b0
                                            try clear p25
                                            try clear q25
                                            try clear hx25
                                            try clear c26
                                            try clear c26b0
                                            try clear c26b1
                                            try clear c26b2
                                            try clear hcv29
                                            try clear c31
                                            try clear c31b0
                                            try clear c31b1
                                            try clear c33
                                            try clear c34
                                            try clear c34b0
                                            try clear c34b1
                                            try clear c34b2
                                            try clear c35
                                            try clear c35b0
                                            try clear c36
                                            try clear c36b0
                                            try clear p37
                                            try clear q37
                                            try clear hx37
                                            try clear c38
                                            try clear c38b0
                                            try clear c38b1
                                            try clear c39
                                            try clear c39b0
                                            try clear c40
                                            try clear c40b0
                                            try clear c40b1
                                            try clear c41
                                            try clear c41b0
                                            try clear c41b1
                                            try clear c42
                                            try clear c42b0
                                            try clear c42b1
                                            try clear c42b2
                                            try clear c43
                                            try clear c43b0
                                            try clear c43b1
                                            try clear c43b2
                                            try clear c45
                                            try clear c45b0
                                            try clear c46
                                            try clear c46b0
                                            try clear c47
                                            try clear c47b0
                                            try clear c48
                                            try clear c48b0
                                            try clear c48b1
                                            try clear c49
                                            try clear c49b0
                                            try clear c49b1
                                            try clear c50
                                            try clear c50b0
                                            try clear c50b1
                                            try clear c50b2
                                            try clear c51
                                            try clear c51b0
                                            try clear c52
                                            try clear c52b0
                                            try clear c53
                                            try clear c53b0
                                            try clear c53b1
                                            try clear c53b2
                                            try clear c58
                                            try clear c58b0
                                            try clear c58b1
                                            try clear hx208_0
                                            try clear hx212_0
                                            try clear hx212_1
                                            try clear hx212_2
                                            try clear p2
                                            try clear p20
                                            try clear p208
                                            try clear p212
                                            try clear p25
                                            try clear p3
                                            try clear p37
                                            try clear p6
                                            try clear q2
                                            try clear q20
                                            try clear q208
                                            try clear q212
                                            try clear q25
                                            try clear q3
                                            try clear q37
                                            obtain ⟨kq, x127_54, rfl, HA, HJ54, HO_9, HO_17, HB⟩ := hcut
                                            cases kq with
                                            | zero => exact absurd HA.out (by simp [cubitlaw09_LexSpace.j7])
                                            | succ kj54 =>
                                              have H := HA.out
                                              clear HA
                                              simp only [cubitlaw09_LexSpace.j7] at H
                                              by_cases c60 : x127_54 = true
                                              · subst c60
                                                have H1 : (some false) = some r := by rw [if_pos rfl] at H; exact H
                                                clear H
                                                have H := H1
                                                clear H1
                                                exact absurd (HTRUE.out.symm.trans (Option.some.inj H).symm) (by decide)
                                              · replace c60 := Bool.eq_false_iff.mpr c60
                                                subst c60
                                                have H1 : (cubitlaw09_LexSpace.l2 kj54 t203 (ji44) x13_31 t213 0) = some r := by rw [if_neg (show ¬ (false = true) by decide)] at H; exact H
                                                clear H
                                                have H := H1
                                                clear H1
                                                have H' := Aside0.mk H
                                                clear H
                                                go_wp2
                                                (try simp only [hji44])
                                                go_loopg [20] kj54 (fun kq v20 w' => ∃ (x20_7 : Int), v20 = .int .i64 x20_7 ∧ Aside0 (cubitlaw09_LexSpace.l2 kq t203 (ji44) x13_31 t213 x20_7 = some r) ∧ Aside0 (kq ≤ kj54) ∧ Aside0 (Kd.R k31 31 w' w.heap.size (fun k_ => some k_ ≠ (v216 : Value).ownBlock) (.slice (some ad212) t203.length co18) t203) ∧ Aside0 (Kd.R k31 31 w' w.heap.size (fun k_ => some k_ ≠ ((.slice (some ad212) t203.length co18) : Value).ownBlock) v216 t213) ∧ Aside0 (Below w.heap.size w w'))
                                                case atStart => exact ⟨(0), (by first | rfl | (simp; done) | (simp [*]; done)), H', ⟨Nat.le_refl _⟩, ⟨by (with_reducible repeat (first | apply Kd.R_alloc | apply Kd.R_drewN | apply Kd.R_drew)); exact HO_9.out⟩, ⟨by (with_reducible repeat (first | apply Kd.R_alloc | apply Kd.R_drewN | apply Kd.R_drew)); exact HO_17.out⟩, ⟨by repeat (first | (with_reducible first | exact HB.out | apply below_alloc | apply pw_below_drewN | apply below_drew1) | exact HB.out)⟩⟩
                                                case round =>
                                                  clear H'
                                                  try clear c1
                                                  try clear c2
                                                  try clear p2
                                                  try clear q2
                                                  try clear hx2
                                                  try clear hcv2
                                                  try clear c3
                                                  try clear p3
                                                  try clear q3
                                                  try clear hx3
                                                  try clear c4
                                                  try clear c5
                                                  try clear c6
                                                  try clear p6
                                                  try clear c8
                                                  try clear c10
                                                  try clear c11
                                                  try clear c11b0
                                                  try clear c11b1
                                                  try clear c13
                                                  try clear c15
                                                  try clear c15b0
                                                  try clear c16
                                                  try clear c16b0
                                                  try clear c16b1
                                                  try clear c16b2
                                                  try clear c19
                                                  try clear c19b0
                                                  try clear c20
                                                  try clear c20b0
                                                  try clear p20
                                                  try clear q20
                                                  try clear hx20
                                                  try clear c21
                                                  try clear c21b0
                                                  try clear p21
                                                  try clear q21
                                                  try clear hx21
                                                  try clear c23
                                                  try clear c23b0
                                                  try clear c24
                                                  try clear c24b0
                                                  try clear p25
                                                  try clear q25
                                                  try clear hx25
                                                  try clear c26
                                                  try clear c26b0
                                                  try clear c26b1
                                                  try clear c26b2
                                                  try clear hcv29
                                                  try clear c31
                                                  try clear c31b0
                                                  try clear c31b1
                                                  try clear c33
                                                  try clear c34
                                                  try clear c34b0
                                                  try clear c34b1
                                                  try clear c34b2
                                                  try clear c35
                                                  try clear c35b0
                                                  try clear c36
                                                  try clear c36b0
                                                  try clear p37
                                                  try clear q37
                                                  try clear hx37
                                                  try clear c38
                                                  try clear c38b0
                                                  try clear c38b1
                                                  try clear c39
                                                  try clear c39b0
                                                  try clear c40
                                                  try clear c40b0
                                                  try clear c40b1
                                                  try clear c41
                                                  try clear c41b0
                                                  try clear c41b1
                                                  try clear c42
                                                  try clear c42b0
                                                  try clear c42b1
                                                  try clear c42b2
                                                  try clear c43
                                                  try clear c43b0
                                                  try clear c43b1
                                                  try clear c43b2
                                                  try clear c45
                                                  try clear c45b0
                                                  try clear c46
                                                  try clear c46b0
                                                  try clear c47
                                                  try clear c47b0
                                                  try clear c48
                                                  try clear c48b0
                                                  try clear c48b1
                                                  try clear c49
                                                  try clear c49b0
                                                  try clear c49b1
                                                  try clear c50
                                                  try clear c50b0
                                                  try clear c50b1
                                                  try clear c50b2
                                                  try clear c51
                                                  try clear c51b0
                                                  try clear c52
                                                  try clear c52b0
                                                  try clear c53
                                                  try clear c53b0
                                                  try clear c53b1
                                                  try clear c53b2
                                                  try clear c58
                                                  try clear c58b0
                                                  try clear c58b1
                                                  try clear c60
                                                  try clear hx208_0
                                                  try clear hx212_0
                                                  try clear hx212_1
                                                  try clear hx212_2
                                                  try clear p2
                                                  try clear p20
                                                  try clear p208
                                                  try clear p21
                                                  try clear p212
                                                  try clear p25
                                                  try clear p3
                                                  try clear p37
                                                  try clear p6
                                                  try clear q2
                                                  try clear q20
                                                  try clear q208
                                                  try clear q21
                                                  try clear q212
                                                  try clear q25
                                                  try clear q3
                                                  try clear q37
                                                  obtain ⟨x20_7, rfl, HA, HK7, HO_9, HO_17, HB⟩ := hrel
                                                  cases gk with
                                                  | zero => exact absurd HA.out (by simp [cubitlaw09_LexSpace.l2])
                                                  | succ k7 =>
                                                    have H := HA.out
                                                    clear HA
                                                    simp only [cubitlaw09_LexSpace.l2] at H
                                                    by_cases c61 : x20_7 < (t203.length : Int)
                                                    · rw [if_pos c61] at H
                                                      have c61b0 : decide (x20_7 < (t203.length : Int)) = true := decide_eq_true c61
                                                      clear c61
                                                      by_cases c62 : 0 ≤ x20_7
                                                      · rw [if_pos c62] at H
                                                        have c62b0 : decide (0 ≤ x20_7) = true := decide_eq_true c62
                                                        clear c62
                                                        by_cases c63 : x20_7 ≥ (ji44)
                                                        · rw [if_pos c63] at H
                                                          have c63b0 : decide ((ji44) ≤ x20_7) = true := decide_eq_true c63
                                                          clear c63
                                                          by_cases c64 : x20_7 < (t213.length : Int)
                                                          · rw [if_pos c64] at H
                                                            have c64b0 : decide (x20_7 < (t213.length : Int)) = true := decide_eq_true c64
                                                            clear c64
                                                            by_cases c65 : (!(((rd_T31 t213 x20_7).f0) == ((rd_T31 t203 x20_7).f0)) || (!((((rd_T31 t213 x20_7).f1).toList) == (((rd_T31 t203 x20_7).f1).toList)) || (!(((rd_T31 t213 x20_7).f2) == (wrap64 (((rd_T31 t203 x20_7).f2) + (x13_31.size : Int))))))) = true
                                                            · rw [if_pos c65] at H
                                                              have c65b0 : (!(((rd_T31 t213 x20_7).f0) == ((rd_T31 t203 x20_7).f0)) || (!((((rd_T31 t213 x20_7).f1).toList) == (((rd_T31 t203 x20_7).f1).toList)) || (!(((rd_T31 t213 x20_7).f2) == (wrap64 (((rd_T31 t203 x20_7).f2) + (x13_31.size : Int))))))) = true := c65
                                                              clear c65
                                                              exact absurd (HTRUE.out.symm.trans (Option.some.inj H).symm) (by decide)
                                                            · rw [if_neg c65] at H
                                                              have c65b0 : (!(((rd_T31 t213 x20_7).f0) == ((rd_T31 t203 x20_7).f0)) || (!((((rd_T31 t213 x20_7).f1).toList) == (((rd_T31 t203 x20_7).f1).toList)) || (!(((rd_T31 t213 x20_7).f2) == (wrap64 (((rd_T31 t203 x20_7).f2) + (x13_31.size : Int))))))) = false := by simpa using c65
                                                              clear c65
                                                              have H' := Aside0.mk H
                                                              clear H
                                                              have p218 : 0 ≤ (x20_7 : Int) := of_decide_eq_true (by first | (with_reducible assumption) | assumption)
                                                              have q218 : x20_7 < (t203.length : Int) := of_decide_eq_true (by first | (with_reducible assumption) | assumption)
                                                              obtain ⟨ad218, e218, hx218_0, hx218_1, hx218_2⟩ := at_T31 (Kd.R_reads' HO_9.out).2.2 x20_7 p218 q218
                                                              obtain rfl : ad212 = ad218 := (by injection e218)
                                                              replace p218 := eq_true p218
                                                              replace q218 := eq_true q218
                                                              try go_wp2_with (first | ((with_reducible refine gate_dst (N := 21) rfl ?_); (try (refine gate_guard (by rfl) ?_; dsimp only)); refine box_event ?hg (N := 21) ?hd (cs := #[.int .i64 0, .string (⟨#[]⟩ : ByteArray), .int .i64 0]) (t := 31) ?hr ?_; (case hd => rfl); (case hg => rfl); (case hr => first | (go_simp; done) | (go_simp; rfl)); intro gb219 hg w66 hbox hb; have n0_ := Aside0.mk (Kd.R_below (Kd.R_elderB (by (with_reducible repeat (first | apply Kd.R_alloc | apply Kd.R_drewN | apply Kd.R_drew)); exact HO_9.out) gb219 (Nat.le_of_eq hg.symm)) hb); have n1_ := Aside0.mk (Kd.R_below (Kd.R_elderB (by (with_reducible repeat (first | apply Kd.R_alloc | apply Kd.R_drewN | apply Kd.R_drew)); exact HO_17.out) gb219 (Nat.le_of_eq hg.symm)) hb); have n2_ := Aside0.mk (below_step (by repeat (first | (with_reducible first | exact HB.out | apply below_alloc | apply pw_below_drewN | apply below_drew1) | exact HB.out)) hb); have n3_ := Aside0.mk (hbox); have n4_ := Aside0.mk ((by rw [hg]; exact (below_size (by repeat (first | (with_reducible first | exact HB.out | apply below_alloc | apply pw_below_drewN | apply below_drew1) | exact HB.out))) : w.heap.size ≤ gb219)); have n5_ := Aside0.mk ((by rw [hg]; exact (below_size (by repeat (first | (with_reducible first | exact HB.out | apply below_alloc | apply pw_below_drewN | apply below_drew1) | exact HB.out))) : w.heap.size ≤ gb219)); clear HO_9; clear HO_17; clear HB; have HO_9 := n0_; have HO_17 := n1_; have HB := n2_; have BK219 := n3_; have GW219 := n4_; have GE219 := n5_; clear n0_ n1_ n2_ n3_ n4_ n5_; clear hb hbox hg; have hcz67_0 : w66.cell? ⟨gb219, 0, none⟩ = some (.int .i64 0) := (blk_cell BK219.out 0).trans rfl; have hcz67_1 : w66.cell? ⟨gb219, 1, none⟩ = some (.string (⟨#[]⟩ : ByteArray)) := (blk_cell BK219.out 1).trans rfl; have hcz67_2 : w66.cell? ⟨gb219, 2, none⟩ = some (.int .i64 0) := (blk_cell BK219.out 2).trans rfl; have hfz67_0 := blk_frozen BK219.out 0; have hfz67_1 := blk_frozen BK219.out 1; have hfz67_2 := blk_frozen BK219.out 2))
                                                              have n0_ : Aside0 (Kd.R k31 31 ((((w66.setCell ⟨gb219, 0, none⟩ (.int .i64 ((rd_T31 t203 x20_7).f0))).setCell ⟨gb219, 1, none⟩ (.string ((rd_T31 t203 x20_7).f1))).setCell ⟨gb219, 2, none⟩ (.int .i64 ((rd_T31 t203 x20_7).f2))).setCell ⟨gb219, 2, none⟩ (.int .i64 (wrap64 (((rd_T31 t203 x20_7).f2) + (x13_31.size : Int))))) w.heap.size (fun k_ => some k_ ≠ (v216 : Value).ownBlock ∧ k_ ≠ gb219) (.slice (some ad212) t203.length co18) t203) := ⟨by (with_reducible repeat (first | apply Kd.R_alloc | apply Kd.R_drewN | apply Kd.R_drew)); exact Kd.R_mono (Kd.R_far (p := ⟨gb219, 2, none⟩) (Kd.R_far (p := ⟨gb219, 2, none⟩) (Kd.R_far (p := ⟨gb219, 1, none⟩) (Kd.R_far (p := ⟨gb219, 0, none⟩) (Kd.R_mono HO_9.out (fun k_ hk => (⟨hk, hk.2⟩ : _ ∧ k_ ≠ gb219))) (fun _ hk => hk.2) (.int .i64 ((rd_T31 t203 x20_7).f0))) (fun _ hk => hk.2) (.string ((rd_T31 t203 x20_7).f1))) (fun _ hk => hk.2) (.int .i64 ((rd_T31 t203 x20_7).f2))) (fun _ hk => hk.2) (.int .i64 (wrap64 (((rd_T31 t203 x20_7).f2) + (x13_31.size : Int))))) (fun _ hk => ⟨hk.1.1, hk.1.2⟩)⟩
                                                              have n1_ : Aside0 (Kd.R k31 31 ((((w66.setCell ⟨gb219, 0, none⟩ (.int .i64 ((rd_T31 t203 x20_7).f0))).setCell ⟨gb219, 1, none⟩ (.string ((rd_T31 t203 x20_7).f1))).setCell ⟨gb219, 2, none⟩ (.int .i64 ((rd_T31 t203 x20_7).f2))).setCell ⟨gb219, 2, none⟩ (.int .i64 (wrap64 (((rd_T31 t203 x20_7).f2) + (x13_31.size : Int))))) w.heap.size (fun k_ => some k_ ≠ (.slice (some ad212) t203.length co18 : Value).ownBlock ∧ k_ ≠ gb219) v216 t213) := ⟨by (with_reducible repeat (first | apply Kd.R_alloc | apply Kd.R_drewN | apply Kd.R_drew)); exact Kd.R_mono (Kd.R_far (p := ⟨gb219, 2, none⟩) (Kd.R_far (p := ⟨gb219, 2, none⟩) (Kd.R_far (p := ⟨gb219, 1, none⟩) (Kd.R_far (p := ⟨gb219, 0, none⟩) (Kd.R_mono HO_17.out (fun k_ hk => (⟨hk, hk.2⟩ : _ ∧ k_ ≠ gb219))) (fun _ hk => hk.2) (.int .i64 ((rd_T31 t203 x20_7).f0))) (fun _ hk => hk.2) (.string ((rd_T31 t203 x20_7).f1))) (fun _ hk => hk.2) (.int .i64 ((rd_T31 t203 x20_7).f2))) (fun _ hk => hk.2) (.int .i64 (wrap64 (((rd_T31 t203 x20_7).f2) + (x13_31.size : Int))))) (fun _ hk => ⟨hk.1.1, hk.1.2⟩)⟩
                                                              have n2_ : Aside0 (((((w66.setCell ⟨gb219, 0, none⟩ (.int .i64 ((rd_T31 t203 x20_7).f0))).setCell ⟨gb219, 1, none⟩ (.string ((rd_T31 t203 x20_7).f1))).setCell ⟨gb219, 2, none⟩ (.int .i64 ((rd_T31 t203 x20_7).f2))).setCell ⟨gb219, 2, none⟩ (.int .i64 (wrap64 (((rd_T31 t203 x20_7).f2) + (x13_31.size : Int))))).heap[gb219]? = some (.cells #[.int .i64 ((rd_T31 t203 x20_7).f0), .string ((rd_T31 t203 x20_7).f1), .int .i64 (wrap64 (((rd_T31 t203 x20_7).f2) + (x13_31.size : Int)))] 31 (0, 0))) := ⟨by (with_reducible repeat (first | refine blk_drewN ?_ _ | refine blk_drew ?_ | refine blk_alloc ?_ _)); refine blk_put (cs := #[.int .i64 ((rd_T31 t203 x20_7).f0), .string ((rd_T31 t203 x20_7).f1), .int .i64 ((rd_T31 t203 x20_7).f2)]) ?_ 2 _ rfl; (with_reducible repeat (first | refine blk_drewN ?_ _ | refine blk_drew ?_ | refine blk_alloc ?_ _)); refine blk_put (cs := #[.int .i64 ((rd_T31 t203 x20_7).f0), .string ((rd_T31 t203 x20_7).f1), .int .i64 0]) ?_ 2 _ rfl; (with_reducible repeat (first | refine blk_drewN ?_ _ | refine blk_drew ?_ | refine blk_alloc ?_ _)); refine blk_put (cs := #[.int .i64 ((rd_T31 t203 x20_7).f0), .string (⟨#[]⟩ : ByteArray), .int .i64 0]) ?_ 1 _ rfl; (with_reducible repeat (first | refine blk_drewN ?_ _ | refine blk_drew ?_ | refine blk_alloc ?_ _)); refine blk_put (cs := #[.int .i64 0, .string (⟨#[]⟩ : ByteArray), .int .i64 0]) ?_ 0 _ rfl; (with_reducible repeat (first | refine blk_drewN ?_ _ | refine blk_drew ?_ | refine blk_alloc ?_ _)); exact BK219.out⟩
                                                              have n3_ : Aside0 (Below w.heap.size w ((((w66.setCell ⟨gb219, 0, none⟩ (.int .i64 ((rd_T31 t203 x20_7).f0))).setCell ⟨gb219, 1, none⟩ (.string ((rd_T31 t203 x20_7).f1))).setCell ⟨gb219, 2, none⟩ (.int .i64 ((rd_T31 t203 x20_7).f2))).setCell ⟨gb219, 2, none⟩ (.int .i64 (wrap64 (((rd_T31 t203 x20_7).f2) + (x13_31.size : Int)))))) := ⟨by repeat (first | (with_reducible first | exact HB.out | apply below_alloc | apply pw_below_drewN | apply below_drew1 | refine below_set ?_ GE219.out) | exact HB.out)⟩
                                                              (try clear HO_9)
                                                              (try clear HO_17)
                                                              (try clear BK219)
                                                              (try clear HB)
                                                              generalize ((((w66.setCell ⟨gb219, 0, none⟩ (.int .i64 ((rd_T31 t203 x20_7).f0))).setCell ⟨gb219, 1, none⟩ (.string ((rd_T31 t203 x20_7).f1))).setCell ⟨gb219, 2, none⟩ (.int .i64 ((rd_T31 t203 x20_7).f2))).setCell ⟨gb219, 2, none⟩ (.int .i64 (wrap64 (((rd_T31 t203 x20_7).f2) + (x13_31.size : Int))))) = w68 at n0_ n1_ n2_ n3_ ⊢
                                                              have HO_9 := n0_
                                                              have HO_17 := n1_
                                                              have BK219 := n2_
                                                              have HB := n3_
                                                              clear n0_ n1_ n2_ n3_
                                                              have n0_ := Aside0.mk (Kd.R_drew HO_9.out)
                                                              have n1_ := Aside0.mk (Kd.R_drew HO_17.out)
                                                              have n2_ := Aside0.mk (blk_drew BK219.out)
                                                              have n3_ := Aside0.mk (below_drew1 HB.out)
                                                              clear HO_9
                                                              clear HO_17
                                                              clear BK219
                                                              clear HB
                                                              have HO_9 := n0_
                                                              have HO_17 := n1_
                                                              have BK219 := n2_
                                                              have HB := n3_
                                                              clear n0_ n1_ n2_ n3_
                                                              obtain ⟨Ao70, co70, eo70⟩ := Kd.R_slice HO_17.out
                                                              (first | subst eo70 | (injection eo70 with f1_ f2_ f3_; have f4_ := f1_.symm; have f5_ := f3_.symm; clear f1_ f2_ f3_; subst f4_; subst f5_))
                                                              have p220 : 0 ≤ (x20_7 : Int) := of_decide_eq_true (by first | (with_reducible assumption) | assumption)
                                                              have q220 : x20_7 < (t213.length : Int) := of_decide_eq_true (by first | (with_reducible assumption) | assumption)
                                                              obtain ⟨ad220, e220, hx220_0, hx220_1, hx220_2⟩ := at_T31 (Kd.R_reads' HO_17.out).2.2 x20_7 p220 q220
                                                              cases e220
                                                              replace p220 := eq_true p220
                                                              replace q220 := eq_true q220
                                                              refine start_ (n := 6) (S := fun w' => w'.cell? ⟨gb219, 0, none⟩ = some (.int .i64 ((rd_T31 t203 x20_7).f0)) ∧ w'.cell? ⟨gb219, 1, none⟩ = some (.string ((rd_T31 t203 x20_7).f1)) ∧ w'.cell? ⟨gb219, 2, none⟩ = some (.int .i64 (wrap64 (((rd_T31 t203 x20_7).f2) + (x13_31.size : Int)))) ∧ w'.cell? (ad220.add ((x20_7).toNat * 3)) = some (.int .i64 ((rd_T31 t213 x20_7).f0)) ∧ w'.cell? ⟨(ad220.add ((x20_7).toNat * 3)).block, (ad220.add ((x20_7).toNat * 3)).off + 1, none⟩ = some (.string ((rd_T31 t213 x20_7).f1)) ∧ w'.cell? ⟨(ad220.add ((x20_7).toNat * 3)).block, (ad220.add ((x20_7).toNat * 3)).off + 2, none⟩ = some (.int .i64 ((rd_T31 t213 x20_7).f2))) (ds := []) #[false, false, false, false, false, false] (by kernel_rfl) rfl rfl ⟨(blk_cell BK219.out 0).trans rfl, (blk_cell BK219.out 1).trans rfl, (blk_cell BK219.out 2).trans rfl, hx220_0, hx220_1, hx220_2⟩ (fun hHeld => ?_)
                                                              generalize w68.drew = w69 at HO_9 HO_17 BK219 HB hx220_0 hx220_1 hx220_2 hHeld ⊢
                                                              refine pure_ (i := 0) (N := some 147) (v := ?_) (a' := ?_) #[true, false, false, false, false, false] rfl rfl (by kernel_rfl) (fun _ _ _ h => h) (Or.inl ⟨by rfl, ?_⟩) ?_ ?_
                                                              rotate_left
                                                              · intro w'
                                                                go_simp
                                                                with_reducible rfl
                                                              rotate_left
                                                              · simp only [Act.put, List.setIfInBounds_toArray, List.set_cons_zero, List.set_cons_succ, i64_w, i32_w]
                                                                rfl
                                                              refine pure_ (i := 1) (N := some 148) (v := ?_) (a' := ?_) #[true, true, false, false, false, false] rfl rfl (by kernel_rfl) (fun _ _ _ h => h) (Or.inl ⟨by rfl, ?_⟩) ?_ ?_
                                                              rotate_left
                                                              · intro w'
                                                                go_simp
                                                                with_reducible rfl
                                                              rotate_left
                                                              · simp only [Act.put, List.setIfInBounds_toArray, List.set_cons_zero, List.set_cons_succ, i64_w, i32_w]
                                                                rfl
                                                              refine pure_ (i := 2) (N := some 149) (v := ?_) (a' := ?_) #[true, true, true, false, false, false] rfl rfl (by kernel_rfl) (fun _ _ _ h => h) (Or.inl ⟨by rfl, ?_⟩) ?_ ?_
                                                              rotate_left
                                                              · intro w'
                                                                go_simp
                                                                with_reducible rfl
                                                              rotate_left
                                                              · simp only [Act.put, List.setIfInBounds_toArray, List.set_cons_zero, List.set_cons_succ, i64_w, i32_w]
                                                                rfl
                                                              refine take_ (i := 3) (N := some 150) (v := ?_) (a' := ?_) #[true, true, true, true, false, false] rfl rfl (by kernel_rfl) (fun _ _ _ h => h) (Or.inl ⟨by rfl, ?_⟩) hHeld ?_ ?_
                                                              rotate_left
                                                              · rintro w' ⟨s0, s1, s2, s3, s4, s5⟩
                                                                go_simp
                                                                with_reducible rfl
                                                              rotate_left
                                                              · simp only [Act.put, List.setIfInBounds_toArray, List.set_cons_zero, List.set_cons_succ, i64_w, i32_w]
                                                                rfl
                                                              refine take_ (i := 4) (N := some 151) (v := ?_) (a' := ?_) #[true, true, true, true, true, false] rfl rfl (by kernel_rfl) (fun _ _ _ h => h) (Or.inl ⟨by rfl, ?_⟩) hHeld ?_ ?_
                                                              rotate_left
                                                              · rintro w' ⟨s0, s1, s2, s3, s4, s5⟩
                                                                go_simp
                                                                with_reducible rfl
                                                              rotate_left
                                                              · simp only [Act.put, List.setIfInBounds_toArray, List.set_cons_zero, List.set_cons_succ, i64_w, i32_w]
                                                                rfl
                                                              refine pure_ (i := 5) (N := some 152) (v := ?_) (a' := ?_) #[true, true, true, true, true, true] rfl rfl (by kernel_rfl) (fun _ _ _ h => h) (Or.inl ⟨by rfl, ?_⟩) ?_ ?_
                                                              rotate_left
                                                              · intro w'
                                                                go_simp
                                                                with_reducible rfl
                                                              rotate_left
                                                              · simp only [Act.put, List.setIfInBounds_toArray, List.set_cons_zero, List.set_cons_succ, i64_w, i32_w]
                                                                rfl
                                                              refine done_ (by kernel_rfl) ?_
                                                              try go_wp2
                                                              go_roundg k7
                                                              case measure => have := HJ7.out; have := HJ13.out; have := HJ16.out; have := HJ29.out; have := HJ31.out; have := HJ54.out; have := HK7.out; omega
                                                              case rel => exact ⟨(wrap64 (x20_7 + 1)), (by first | rfl | (simp; done) | (simp [*]; done)), H', ⟨by have := HJ7.out; have := HJ13.out; have := HJ16.out; have := HJ29.out; have := HJ31.out; have := HJ54.out; have := HK7.out; omega⟩, ⟨by (with_reducible repeat (first | apply Kd.R_alloc | apply Kd.R_drewN | apply Kd.R_drew)); exact Kd.R_mono HO_9.out (fun _ hk => hk.1)⟩, ⟨by (with_reducible repeat (first | apply Kd.R_alloc | apply Kd.R_drewN | apply Kd.R_drew)); exact Kd.R_mono HO_17.out (fun _ hk => hk.1)⟩, ⟨by repeat (first | (with_reducible first | exact HB.out | apply below_alloc | apply pw_below_drewN | apply below_drew1 | refine below_set ?_ GE219.out) | exact HB.out)⟩⟩
                                                          · rw [if_neg c64] at H
                                                            exact absurd H (by simp)
                                                        · rw [if_neg c63] at H
                                                          have c63b0 : decide ((ji44) ≤ x20_7) = false := decide_eq_false c63
                                                          clear c63
                                                          by_cases c71 : x20_7 < (t213.length : Int)
                                                          · rw [if_pos c71] at H
                                                            have c71b0 : decide (x20_7 < (t213.length : Int)) = true := decide_eq_true c71
                                                            clear c71
                                                            by_cases c72 : (!(((rd_T31 t213 x20_7).f0) == ((rd_T31 t203 x20_7).f0)) || (!((((rd_T31 t213 x20_7).f1).toList) == (((rd_T31 t203 x20_7).f1).toList)) || (!(((rd_T31 t213 x20_7).f2) == ((rd_T31 t203 x20_7).f2))))) = true
                                                            · rw [if_pos c72] at H
                                                              have c72b0 : (!(((rd_T31 t213 x20_7).f0) == ((rd_T31 t203 x20_7).f0)) || (!((((rd_T31 t213 x20_7).f1).toList) == (((rd_T31 t203 x20_7).f1).toList)) || (!(((rd_T31 t213 x20_7).f2) == ((rd_T31 t203 x20_7).f2))))) = true := c72
                                                              clear c72
                                                              exact absurd (HTRUE.out.symm.trans (Option.some.inj H).symm) (by decide)
                                                            · rw [if_neg c72] at H
                                                              have c72b0 : (!(((rd_T31 t213 x20_7).f0) == ((rd_T31 t203 x20_7).f0)) || (!((((rd_T31 t213 x20_7).f1).toList) == (((rd_T31 t203 x20_7).f1).toList)) || (!(((rd_T31 t213 x20_7).f2) == ((rd_T31 t203 x20_7).f2))))) = false := by simpa using c72
                                                              clear c72
                                                              have H' := Aside0.mk H
                                                              clear H
                                                              have p218 : 0 ≤ (x20_7 : Int) := of_decide_eq_true (by first | (with_reducible assumption) | assumption)
                                                              have q218 : x20_7 < (t203.length : Int) := of_decide_eq_true (by first | (with_reducible assumption) | assumption)
                                                              obtain ⟨ad218, e218, hx218_0, hx218_1, hx218_2⟩ := at_T31 (Kd.R_reads' HO_9.out).2.2 x20_7 p218 q218
                                                              obtain rfl : ad212 = ad218 := (by injection e218)
                                                              replace p218 := eq_true p218
                                                              replace q218 := eq_true q218
                                                              try go_wp2_with (first | ((with_reducible refine gate_dst (N := 21) rfl ?_); (try (refine gate_guard (by rfl) ?_; dsimp only)); refine box_event ?hg (N := 21) ?hd (cs := #[.int .i64 0, .string (⟨#[]⟩ : ByteArray), .int .i64 0]) (t := 31) ?hr ?_; (case hd => rfl); (case hg => rfl); (case hr => first | (go_simp; done) | (go_simp; rfl)); intro gb219 hg w73 hbox hb; have n0_ := Aside0.mk (Kd.R_below (Kd.R_elderB (by (with_reducible repeat (first | apply Kd.R_alloc | apply Kd.R_drewN | apply Kd.R_drew)); exact HO_9.out) gb219 (Nat.le_of_eq hg.symm)) hb); have n1_ := Aside0.mk (Kd.R_below (Kd.R_elderB (by (with_reducible repeat (first | apply Kd.R_alloc | apply Kd.R_drewN | apply Kd.R_drew)); exact HO_17.out) gb219 (Nat.le_of_eq hg.symm)) hb); have n2_ := Aside0.mk (below_step (by repeat (first | (with_reducible first | exact HB.out | apply below_alloc | apply pw_below_drewN | apply below_drew1) | exact HB.out)) hb); have n3_ := Aside0.mk (hbox); have n4_ := Aside0.mk ((by rw [hg]; exact (below_size (by repeat (first | (with_reducible first | exact HB.out | apply below_alloc | apply pw_below_drewN | apply below_drew1) | exact HB.out))) : w.heap.size ≤ gb219)); have n5_ := Aside0.mk ((by rw [hg]; exact (below_size (by repeat (first | (with_reducible first | exact HB.out | apply below_alloc | apply pw_below_drewN | apply below_drew1) | exact HB.out))) : w.heap.size ≤ gb219)); clear HO_9; clear HO_17; clear HB; have HO_9 := n0_; have HO_17 := n1_; have HB := n2_; have BK219 := n3_; have GW219 := n4_; have GE219 := n5_; clear n0_ n1_ n2_ n3_ n4_ n5_; clear hb hbox hg; have hcz74_0 : w73.cell? ⟨gb219, 0, none⟩ = some (.int .i64 0) := (blk_cell BK219.out 0).trans rfl; have hcz74_1 : w73.cell? ⟨gb219, 1, none⟩ = some (.string (⟨#[]⟩ : ByteArray)) := (blk_cell BK219.out 1).trans rfl; have hcz74_2 : w73.cell? ⟨gb219, 2, none⟩ = some (.int .i64 0) := (blk_cell BK219.out 2).trans rfl; have hfz74_0 := blk_frozen BK219.out 0; have hfz74_1 := blk_frozen BK219.out 1; have hfz74_2 := blk_frozen BK219.out 2))
                                                              have n0_ : Aside0 (Kd.R k31 31 (((w73.setCell ⟨gb219, 0, none⟩ (.int .i64 ((rd_T31 t203 x20_7).f0))).setCell ⟨gb219, 1, none⟩ (.string ((rd_T31 t203 x20_7).f1))).setCell ⟨gb219, 2, none⟩ (.int .i64 ((rd_T31 t203 x20_7).f2))) w.heap.size (fun k_ => some k_ ≠ (v216 : Value).ownBlock ∧ k_ ≠ gb219) (.slice (some ad212) t203.length co18) t203) := ⟨by (with_reducible repeat (first | apply Kd.R_alloc | apply Kd.R_drewN | apply Kd.R_drew)); exact Kd.R_mono (Kd.R_far (p := ⟨gb219, 2, none⟩) (Kd.R_far (p := ⟨gb219, 1, none⟩) (Kd.R_far (p := ⟨gb219, 0, none⟩) (Kd.R_mono HO_9.out (fun k_ hk => (⟨hk, hk.2⟩ : _ ∧ k_ ≠ gb219))) (fun _ hk => hk.2) (.int .i64 ((rd_T31 t203 x20_7).f0))) (fun _ hk => hk.2) (.string ((rd_T31 t203 x20_7).f1))) (fun _ hk => hk.2) (.int .i64 ((rd_T31 t203 x20_7).f2))) (fun _ hk => ⟨hk.1.1, hk.1.2⟩)⟩
                                                              have n1_ : Aside0 (Kd.R k31 31 (((w73.setCell ⟨gb219, 0, none⟩ (.int .i64 ((rd_T31 t203 x20_7).f0))).setCell ⟨gb219, 1, none⟩ (.string ((rd_T31 t203 x20_7).f1))).setCell ⟨gb219, 2, none⟩ (.int .i64 ((rd_T31 t203 x20_7).f2))) w.heap.size (fun k_ => some k_ ≠ (.slice (some ad212) t203.length co18 : Value).ownBlock ∧ k_ ≠ gb219) v216 t213) := ⟨by (with_reducible repeat (first | apply Kd.R_alloc | apply Kd.R_drewN | apply Kd.R_drew)); exact Kd.R_mono (Kd.R_far (p := ⟨gb219, 2, none⟩) (Kd.R_far (p := ⟨gb219, 1, none⟩) (Kd.R_far (p := ⟨gb219, 0, none⟩) (Kd.R_mono HO_17.out (fun k_ hk => (⟨hk, hk.2⟩ : _ ∧ k_ ≠ gb219))) (fun _ hk => hk.2) (.int .i64 ((rd_T31 t203 x20_7).f0))) (fun _ hk => hk.2) (.string ((rd_T31 t203 x20_7).f1))) (fun _ hk => hk.2) (.int .i64 ((rd_T31 t203 x20_7).f2))) (fun _ hk => ⟨hk.1.1, hk.1.2⟩)⟩
                                                              have n2_ : Aside0 ((((w73.setCell ⟨gb219, 0, none⟩ (.int .i64 ((rd_T31 t203 x20_7).f0))).setCell ⟨gb219, 1, none⟩ (.string ((rd_T31 t203 x20_7).f1))).setCell ⟨gb219, 2, none⟩ (.int .i64 ((rd_T31 t203 x20_7).f2))).heap[gb219]? = some (.cells #[.int .i64 ((rd_T31 t203 x20_7).f0), .string ((rd_T31 t203 x20_7).f1), .int .i64 ((rd_T31 t203 x20_7).f2)] 31 (0, 0))) := ⟨by (with_reducible repeat (first | refine blk_drewN ?_ _ | refine blk_drew ?_ | refine blk_alloc ?_ _)); refine blk_put (cs := #[.int .i64 ((rd_T31 t203 x20_7).f0), .string ((rd_T31 t203 x20_7).f1), .int .i64 0]) ?_ 2 _ rfl; (with_reducible repeat (first | refine blk_drewN ?_ _ | refine blk_drew ?_ | refine blk_alloc ?_ _)); refine blk_put (cs := #[.int .i64 ((rd_T31 t203 x20_7).f0), .string (⟨#[]⟩ : ByteArray), .int .i64 0]) ?_ 1 _ rfl; (with_reducible repeat (first | refine blk_drewN ?_ _ | refine blk_drew ?_ | refine blk_alloc ?_ _)); refine blk_put (cs := #[.int .i64 0, .string (⟨#[]⟩ : ByteArray), .int .i64 0]) ?_ 0 _ rfl; (with_reducible repeat (first | refine blk_drewN ?_ _ | refine blk_drew ?_ | refine blk_alloc ?_ _)); exact BK219.out⟩
                                                              have n3_ : Aside0 (Below w.heap.size w (((w73.setCell ⟨gb219, 0, none⟩ (.int .i64 ((rd_T31 t203 x20_7).f0))).setCell ⟨gb219, 1, none⟩ (.string ((rd_T31 t203 x20_7).f1))).setCell ⟨gb219, 2, none⟩ (.int .i64 ((rd_T31 t203 x20_7).f2)))) := ⟨by repeat (first | (with_reducible first | exact HB.out | apply below_alloc | apply pw_below_drewN | apply below_drew1 | refine below_set ?_ GE219.out) | exact HB.out)⟩
                                                              (try clear HO_9)
                                                              (try clear HO_17)
                                                              (try clear BK219)
                                                              (try clear HB)
                                                              generalize (((w73.setCell ⟨gb219, 0, none⟩ (.int .i64 ((rd_T31 t203 x20_7).f0))).setCell ⟨gb219, 1, none⟩ (.string ((rd_T31 t203 x20_7).f1))).setCell ⟨gb219, 2, none⟩ (.int .i64 ((rd_T31 t203 x20_7).f2))) = w75 at n0_ n1_ n2_ n3_ ⊢
                                                              have HO_9 := n0_
                                                              have HO_17 := n1_
                                                              have BK219 := n2_
                                                              have HB := n3_
                                                              clear n0_ n1_ n2_ n3_
                                                              have n0_ := Aside0.mk (Kd.R_drew HO_9.out)
                                                              have n1_ := Aside0.mk (Kd.R_drew HO_17.out)
                                                              have n2_ := Aside0.mk (blk_drew BK219.out)
                                                              have n3_ := Aside0.mk (below_drew1 HB.out)
                                                              clear HO_9
                                                              clear HO_17
                                                              clear BK219
                                                              clear HB
                                                              have HO_9 := n0_
                                                              have HO_17 := n1_
                                                              have BK219 := n2_
                                                              have HB := n3_
                                                              clear n0_ n1_ n2_ n3_
                                                              obtain ⟨Ao77, co77, eo77⟩ := Kd.R_slice HO_17.out
                                                              (first | subst eo77 | (injection eo77 with f1_ f2_ f3_; have f4_ := f1_.symm; have f5_ := f3_.symm; clear f1_ f2_ f3_; subst f4_; subst f5_))
                                                              have p221 : 0 ≤ (x20_7 : Int) := of_decide_eq_true (by first | (with_reducible assumption) | assumption)
                                                              have q221 : x20_7 < (t213.length : Int) := of_decide_eq_true (by first | (with_reducible assumption) | assumption)
                                                              obtain ⟨ad221, e221, hx221_0, hx221_1, hx221_2⟩ := at_T31 (Kd.R_reads' HO_17.out).2.2 x20_7 p221 q221
                                                              cases e221
                                                              replace p221 := eq_true p221
                                                              replace q221 := eq_true q221
                                                              refine start_ (n := 6) (S := fun w' => w'.cell? ⟨gb219, 0, none⟩ = some (.int .i64 ((rd_T31 t203 x20_7).f0)) ∧ w'.cell? ⟨gb219, 1, none⟩ = some (.string ((rd_T31 t203 x20_7).f1)) ∧ w'.cell? ⟨gb219, 2, none⟩ = some (.int .i64 ((rd_T31 t203 x20_7).f2)) ∧ w'.cell? (ad221.add ((x20_7).toNat * 3)) = some (.int .i64 ((rd_T31 t213 x20_7).f0)) ∧ w'.cell? ⟨(ad221.add ((x20_7).toNat * 3)).block, (ad221.add ((x20_7).toNat * 3)).off + 1, none⟩ = some (.string ((rd_T31 t213 x20_7).f1)) ∧ w'.cell? ⟨(ad221.add ((x20_7).toNat * 3)).block, (ad221.add ((x20_7).toNat * 3)).off + 2, none⟩ = some (.int .i64 ((rd_T31 t213 x20_7).f2))) (ds := []) #[false, false, false, false, false, false] (by kernel_rfl) rfl rfl ⟨(blk_cell BK219.out 0).trans rfl, (blk_cell BK219.out 1).trans rfl, (blk_cell BK219.out 2).trans rfl, hx221_0, hx221_1, hx221_2⟩ (fun hHeld => ?_)
                                                              generalize w75.drew = w76 at HO_9 HO_17 BK219 HB hx221_0 hx221_1 hx221_2 hHeld ⊢
                                                              refine pure_ (i := 0) (N := some 147) (v := ?_) (a' := ?_) #[true, false, false, false, false, false] rfl rfl (by kernel_rfl) (fun _ _ _ h => h) (Or.inl ⟨by rfl, ?_⟩) ?_ ?_
                                                              rotate_left
                                                              · intro w'
                                                                go_simp
                                                                with_reducible rfl
                                                              rotate_left
                                                              · simp only [Act.put, List.setIfInBounds_toArray, List.set_cons_zero, List.set_cons_succ, i64_w, i32_w]
                                                                rfl
                                                              refine pure_ (i := 1) (N := some 148) (v := ?_) (a' := ?_) #[true, true, false, false, false, false] rfl rfl (by kernel_rfl) (fun _ _ _ h => h) (Or.inl ⟨by rfl, ?_⟩) ?_ ?_
                                                              rotate_left
                                                              · intro w'
                                                                go_simp
                                                                with_reducible rfl
                                                              rotate_left
                                                              · simp only [Act.put, List.setIfInBounds_toArray, List.set_cons_zero, List.set_cons_succ, i64_w, i32_w]
                                                                rfl
                                                              refine pure_ (i := 2) (N := some 149) (v := ?_) (a' := ?_) #[true, true, true, false, false, false] rfl rfl (by kernel_rfl) (fun _ _ _ h => h) (Or.inl ⟨by rfl, ?_⟩) ?_ ?_
                                                              rotate_left
                                                              · intro w'
                                                                go_simp
                                                                with_reducible rfl
                                                              rotate_left
                                                              · simp only [Act.put, List.setIfInBounds_toArray, List.set_cons_zero, List.set_cons_succ, i64_w, i32_w]
                                                                rfl
                                                              refine take_ (i := 3) (N := some 150) (v := ?_) (a' := ?_) #[true, true, true, true, false, false] rfl rfl (by kernel_rfl) (fun _ _ _ h => h) (Or.inl ⟨by rfl, ?_⟩) hHeld ?_ ?_
                                                              rotate_left
                                                              · rintro w' ⟨s0, s1, s2, s3, s4, s5⟩
                                                                go_simp
                                                                with_reducible rfl
                                                              rotate_left
                                                              · simp only [Act.put, List.setIfInBounds_toArray, List.set_cons_zero, List.set_cons_succ, i64_w, i32_w]
                                                                rfl
                                                              refine take_ (i := 4) (N := some 151) (v := ?_) (a' := ?_) #[true, true, true, true, true, false] rfl rfl (by kernel_rfl) (fun _ _ _ h => h) (Or.inl ⟨by rfl, ?_⟩) hHeld ?_ ?_
                                                              rotate_left
                                                              · rintro w' ⟨s0, s1, s2, s3, s4, s5⟩
                                                                go_simp
                                                                with_reducible rfl
                                                              rotate_left
                                                              · simp only [Act.put, List.setIfInBounds_toArray, List.set_cons_zero, List.set_cons_succ, i64_w, i32_w]
                                                                rfl
                                                              refine pure_ (i := 5) (N := some 152) (v := ?_) (a' := ?_) #[true, true, true, true, true, true] rfl rfl (by kernel_rfl) (fun _ _ _ h => h) (Or.inl ⟨by rfl, ?_⟩) ?_ ?_
                                                              rotate_left
                                                              · intro w'
                                                                go_simp
                                                                with_reducible rfl
                                                              rotate_left
                                                              · simp only [Act.put, List.setIfInBounds_toArray, List.set_cons_zero, List.set_cons_succ, i64_w, i32_w]
                                                                rfl
                                                              refine done_ (by kernel_rfl) ?_
                                                              try go_wp2
                                                              go_roundg k7
                                                              case measure => have := HJ7.out; have := HJ13.out; have := HJ16.out; have := HJ29.out; have := HJ31.out; have := HJ54.out; have := HK7.out; omega
                                                              case rel => exact ⟨(wrap64 (x20_7 + 1)), (by first | rfl | (simp; done) | (simp [*]; done)), H', ⟨by have := HJ7.out; have := HJ13.out; have := HJ16.out; have := HJ29.out; have := HJ31.out; have := HJ54.out; have := HK7.out; omega⟩, ⟨by (with_reducible repeat (first | apply Kd.R_alloc | apply Kd.R_drewN | apply Kd.R_drew)); exact Kd.R_mono HO_9.out (fun _ hk => hk.1)⟩, ⟨by (with_reducible repeat (first | apply Kd.R_alloc | apply Kd.R_drewN | apply Kd.R_drew)); exact Kd.R_mono HO_17.out (fun _ hk => hk.1)⟩, ⟨by repeat (first | (with_reducible first | exact HB.out | apply below_alloc | apply pw_below_drewN | apply below_drew1 | refine below_set ?_ GE219.out) | exact HB.out)⟩⟩
                                                          · rw [if_neg c71] at H
                                                            exact absurd H (by simp)
                                                      · rw [if_neg c62] at H
                                                        exact absurd H (by simp)
                                                    · rw [if_neg c61] at H
                                                      have c61b0 : decide (x20_7 < (t203.length : Int)) = false := decide_eq_false c61
                                                      clear c61
                                                      obtain rfl := Option.some.inj H
                                                      go_wp2
                                                      go_ret
                                                      exact ⟨by first | rfl | (simp [errW_none, errW_some] <;> rfl) | (simp only [← hji44]; first | rfl | (simp [errW_none, errW_some] <;> rfl)) | (simp [*, errW_none, errW_some] <;> rfl), by repeat (first | (with_reducible first | exact HB.out | apply below_alloc | apply pw_below_drewN | apply below_drew1) | exact HB.out)⟩
                                        · rw [if_neg c53] at H
                                          exact absurd H (by simp)
                                      · rw [if_neg c50] at H
                                        exact absurd H (by simp)
                                    · rw [if_neg c49] at H
                                      exact absurd H (by simp)
                                  · rw [if_neg c48] at H
                                    exact absurd H (by simp)
                              · rw [if_neg c46] at H
                                exact absurd H (by simp)
                            · rw [if_neg c45] at H
                              exact absurd H (by simp)
  · replace c6 := Bool.eq_false_iff.mpr c6
    subst c6
    have H1 : (some false) = some r := by rw [if_neg (show ¬ (false = true) by decide)] at H; exact H
    clear H
    have H := H1
    clear H1
    exact absurd (HTRUE.out.symm.trans (Option.some.inj H).symm) (by decide)

/-- THE ONE PURE STATEMENT of cubitlaw09_LexSpace: yours. -/
def cubitlaw09_LexSpace.Pure : Prop := ∀ (a0 : ByteArray) (a1 : Int) (l2 : List Int) (a3 : ByteArray), a0.size ≤ 140737488351232 → (Lit.int .i64 a1).wf = true → l2.length ≤ maxLen → l2.length * 1 ≤ 140737488351232 → (∀ x ∈ l2, (Lit.int .u8 x).wf = true) → a3.size ≤ 140737488351232 → ∃ k, cubitlaw09_LexSpace.f k a0 a1 l2 a3 = some true
theorem cubitlaw09_LexSpace.walk (P : cubitlaw09_LexSpace.Pure) (a0 : ByteArray) (a1 : Int) (a2 : Option Addr) (len2 cap2 : Nat) (z2 : List Int) (a3 : ByteArray) (w : World) (w0 : a0.size ≤ 140737488351232) (w1 : (Lit.int .i64 a1).wf = true) (w2 : (a2 = none ∧ len2 = 0 ∧ cap2 = 0 ∧ z2 = []) ∨ ∃ x, a2 = some x ∧ len2 ≤ cap2 ∧ cap2 ≤ maxLen ∧ z2.length = cap2 ∧ (∀ i, i < z2.length → w.cell? (x.add i) = some (.int .u8 (z2.getD i 0))) ∧ ∀ n ∈ z2, (Lit.int .u8 n).wf = true) (y2 : len2 * 1 ≤ 140737488351232) (w3 : a3.size ≤ 140737488351232) :
    Calls Try.prog 5 #[.string a0, .int .i64 a1, .slice a2 len2 cap2, .string a3] w fun e w' => e = .returned (.bool true) ∧ Below w.heap.size w w' := by
  obtain ⟨l2, rfl, hr2, hm2, hw2, hc2⟩ := ReadsInt.ofRowC w2
  obtain ⟨k, h⟩ := P a0 a1 l2 a3 w0 w1 hm2 y2 hw2 w3
  refine (cubitlaw09_LexSpace.calls k a0 a1 _ _ l2 a3 true w (Kd.C_of_reads (d := (0 : Int)) (h1 := fun _ => rfl) hr2) hc2 h rfl).mono ?_
  rintro e w' ⟨rfl, hd⟩
  exact ⟨rfl, hd⟩

end Go.Proofs.Ytkonklmgkkbnmaa.PA
