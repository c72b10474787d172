/- Printed for this claim by a program of the session: contracts of Go functions: a call answers what its Lean function tells, wherever that tells something. -/
import Derived.Test.YtechbhjdgfcgoaaDoorPAx0
import Derived.Test.YtechbhjdgfcgoaaDoorPAx1
import Derived.Test.YtechbhjdgfcgoaaDoorPAx2
import Derived.Test.YtechbhjdgfcgoaaDoorPAx3
import Derived.Test.YtechbhjdgfcgoaaDoorPAx9
import Derived.Test.YtechbhjdgfcgoaaDoorGParseF
import Derived.Test.YtechbhjdgfcgoaaDoorGTextD
namespace Go.Proofs.YtechbhjdgfcgoaaDoor.PA
open Go.RowKit Go.Proofs.YtechbhjdgfcgoaaDoorW.PrintWords Go.Proofs.YtechbhjdgfcgoaaDoorW.PrintLast Go.Proofs.YtechbhjdgfcgoaaDoorW.PrintMore
attribute [local go_sem] max2_int min2_int max_two min_two max_three min_three max_four min_four   -- for this text's walks alone
set_option linter.unusedVariables false
set_option linter.unusedSimpArgs false

attribute [local go_sem high] eqA26
/-! ### cubitlaw07_PauliTexts: function 4 -/
mutual
def cubitlaw07_PauliTexts.j0 : Nat → Int → Int → Int → Int → Int → Int → Int → Int → Option (Bool)
  | 0, _, _, _, _, _, _, _, _ => none
  | k + 1, x177000, x177001, x177002, x177003, x178000, x178001, x178002, x178003 => (pauli_Check.f x177000 x177001 x177002 x177003).bind fun t187 => (if t187 = 0 then ((pauli_Check.f x178000 x178001 x178002 x178003).bind fun t188 => (cubitlaw07_PauliTexts.j1 k (t188 != 0) x177000 x177001 x177002 x177003 x178000 x178001 x178002 x178003)) else (cubitlaw07_PauliTexts.j1 k true x177000 x177001 x177002 x177003 x178000 x178001 x178002 x178003))
def cubitlaw07_PauliTexts.j1 : Nat → Bool → Int → Int → Int → Int → Int → Int → Int → Int → Option (Bool)
  | 0, _, _, _, _, _, _, _, _, _ => none
  | k + 1, x73, x177000, x177001, x177002, x177003, x178000, x178001, x178002, x178003 => if x73 = true then (some true) else ((pauli_Text.f x177000 x177001 x177002 x177003).bind fun bt189 => ((pauli_Parse.f bt189.1).bind fun bt191 => (if bt189.2 = 0 then (if bt191.2.2.2.2 = 0 then (cubitlaw07_PauliTexts.j2 k (!(bt191.1 == x177000) || (!(bt191.2.1 == x177001) || (!(bt191.2.2.1 == x177002) || (!(bt191.2.2.2.1 == x177003))))) x177000 x177001 x177002 x177003 x178000 x178001 x178002 x178003) else (cubitlaw07_PauliTexts.j2 k true x177000 x177001 x177002 x177003 x178000 x178001 x178002 x178003)) else (cubitlaw07_PauliTexts.j2 k true x177000 x177001 x177002 x177003 x178000 x178001 x178002 x178003))))
def cubitlaw07_PauliTexts.j2 : Nat → Bool → Int → Int → Int → Int → Int → Int → Int → Int → Option (Bool)
  | 0, _, _, _, _, _, _, _, _, _ => none
  | k + 1, x94, x177000, x177001, x177002, x177003, x178000, x178001, x178002, x178003 => if x94 = true then (some false) else (if x177000 = x178000 then ((pauli_Mul.f x177000 x177001 x177002 x177003 x178000 x178001 x178002 x178003).bind fun bt203 => ((pauli_Weight.f x177000 x177001 x177002 x177003).bind fun bt209 => ((pauli_Weight.f x178000 x178001 x178002 x178003).bind fun bt211 => ((pauli_Weight.f bt203.1 bt203.2.1 bt203.2.2.1 bt203.2.2.2.1).bind fun bt213 => (if bt203.2.2.2.2 = 0 then (if bt209.2 = 0 then (if bt211.2 = 0 then (if bt213.2 = 0 then (if bt213.1 ≤ (wrap64 (bt209.1 + bt211.1)) then (if bt209.1 ≤ x177000 then (some (decide (bt213.1 ≥ (wrap64 (bt209.1 - bt211.1))))) else (some false)) else (some false)) else (some false)) else (some false)) else (some false)) else (some false)))))) else ((pauli_Mul.f x177000 x177001 x177002 x177003 x178000 x178001 x178002 x178003).bind fun bt197 => (some (bt197.2.2.2.2 == 2))))
end
def cubitlaw07_PauliTexts.f (k : Nat) (a0_0 : Int) (a0_1 : Int) (a0_2 : Int) (a0_3 : Int) (a1_0 : Int) (a1_1 : Int) (a1_2 : Int) (a1_3 : Int) (a2 : ByteArray) : Option (Bool) := (cubitlaw07_awake.f k).bind fun t178 => (if t178 = true then ((pauli_Parse.f a2).bind fun bt179 => (if bt179.2.2.2.2 = 0 then ((pauli_Text.f bt179.1 bt179.2.1 bt179.2.2.1 bt179.2.2.2.1).bind fun bt185 => (if bt185.2 = 0 then (if (a2.size : Int) > 0 then (if 0 < (a2.size : Int) then (if (bt a2 0) = 43 then (if bt185.1.toList = a2.toList then (if (bt185.1.size : Int) < 1 then (some false) else (cubitlaw07_PauliTexts.j0 k a0_0 a0_1 a0_2 a0_3 a1_0 a1_1 a1_2 a1_3)) else (some false)) else (if (bt a2 0) = 45 then (if bt185.1.toList = a2.toList then (if (bt185.1.size : Int) < 1 then (some false) else (cubitlaw07_PauliTexts.j0 k a0_0 a0_1 a0_2 a0_3 a1_0 a1_1 a1_2 a1_3)) else (some false)) else (if (bt185.1.size : Int) < 1 then (some false) else (cubitlaw07_PauliTexts.j0 k a0_0 a0_1 a0_2 a0_3 a1_0 a1_1 a1_2 a1_3)))) else (none)) else (if (bt185.1.size : Int) < 1 then (some false) else (cubitlaw07_PauliTexts.j0 k a0_0 a0_1 a0_2 a0_3 a1_0 a1_1 a1_2 a1_3))) else (some false))) else (if (!(bt179.1 == 0) || (!(bt179.2.1 == 0) || (!(bt179.2.2.1 == 0) || (!(bt179.2.2.2.1 == 0))))) = true then (some false) else (cubitlaw07_PauliTexts.j0 k a0_0 a0_1 a0_2 a0_3 a1_0 a1_1 a1_2 a1_3)))) else (some false))
theorem cubitlaw07_PauliTexts.mono_l : ∀ k, (∀ y0 y1 y2 y3 y4 y5 y6 y7, LeO (cubitlaw07_PauliTexts.j0 k y0 y1 y2 y3 y4 y5 y6 y7) (cubitlaw07_PauliTexts.j0 (k + 1) y0 y1 y2 y3 y4 y5 y6 y7)) ∧ (∀ y0 y1 y2 y3 y4 y5 y6 y7 y8, LeO (cubitlaw07_PauliTexts.j1 k y0 y1 y2 y3 y4 y5 y6 y7 y8) (cubitlaw07_PauliTexts.j1 (k + 1) y0 y1 y2 y3 y4 y5 y6 y7 y8)) ∧ (∀ y0 y1 y2 y3 y4 y5 y6 y7 y8, LeO (cubitlaw07_PauliTexts.j2 k y0 y1 y2 y3 y4 y5 y6 y7 y8) (cubitlaw07_PauliTexts.j2 (k + 1) y0 y1 y2 y3 y4 y5 y6 y7 y8))
  | 0 => ⟨fun _ _ _ _ _ _ _ _ r h => by simp [cubitlaw07_PauliTexts.j0] at h, fun _ _ _ _ _ _ _ _ _ r h => by simp [cubitlaw07_PauliTexts.j1] at h, fun _ _ _ _ _ _ _ _ _ r h => by simp [cubitlaw07_PauliTexts.j2] at h⟩
  | k + 1 => by
    obtain ⟨ih0, ih1, ih2⟩ := cubitlaw07_PauliTexts.mono_l k
    refine ⟨?_, ?_, ?_⟩
    · intro y0 y1 y2 y3 y4 y5 y6 y7
      unfold cubitlaw07_PauliTexts.j0
      repeat' first
      | (with_reducible exact ih0 _ _ _ _ _ _ _ _)
      | (with_reducible exact ih1 _ _ _ _ _ _ _ _ _)
      | (with_reducible exact ih2 _ _ _ _ _ _ _ _ _)
      | (with_reducible exact cubitlaw07_awake.mono _)
      | (with_reducible exact LeO.refl _)
      | (with_reducible exact LeO.none _)
      | (with_reducible refine LeO.ite ?_ ?_)
      | (with_reducible refine LeO.bind ?_ (fun _ => ?_))
      | exact ih0 _ _ _ _ _ _ _ _
      | exact ih1 _ _ _ _ _ _ _ _ _
      | exact ih2 _ _ _ _ _ _ _ _ _
      | exact cubitlaw07_awake.mono _
      | exact LeO.none _
      | refine LeO.ite ?_ ?_
      | refine LeO.bind ?_ (fun _ => ?_)
    · intro y0 y1 y2 y3 y4 y5 y6 y7 y8
      unfold cubitlaw07_PauliTexts.j1
      repeat' first
      | (with_reducible exact ih0 _ _ _ _ _ _ _ _)
      | (with_reducible exact ih1 _ _ _ _ _ _ _ _ _)
      | (with_reducible exact ih2 _ _ _ _ _ _ _ _ _)
      | (with_reducible exact cubitlaw07_awake.mono _)
      | (with_reducible exact LeO.refl _)
      | (with_reducible exact LeO.none _)
      | (with_reducible refine LeO.ite ?_ ?_)
      | (with_reducible refine LeO.bind ?_ (fun _ => ?_))
      | exact ih0 _ _ _ _ _ _ _ _
      | exact ih1 _ _ _ _ _ _ _ _ _
      | exact ih2 _ _ _ _ _ _ _ _ _
      | exact cubitlaw07_awake.mono _
      | exact LeO.none _
      | refine LeO.ite ?_ ?_
      | refine LeO.bind ?_ (fun _ => ?_)
    · intro y0 y1 y2 y3 y4 y5 y6 y7 y8
      unfold cubitlaw07_PauliTexts.j2
      repeat' first
      | (with_reducible exact ih0 _ _ _ _ _ _ _ _)
      | (with_reducible exact ih1 _ _ _ _ _ _ _ _ _)
      | (with_reducible exact ih2 _ _ _ _ _ _ _ _ _)
      | (with_reducible exact cubitlaw07_awake.mono _)
      | (with_reducible exact LeO.refl _)
      | (with_reducible exact LeO.none _)
      | (with_reducible refine LeO.ite ?_ ?_)
      | (with_reducible refine LeO.bind ?_ (fun _ => ?_))
      | exact ih0 _ _ _ _ _ _ _ _
      | exact ih1 _ _ _ _ _ _ _ _ _
      | exact ih2 _ _ _ _ _ _ _ _ _
      | exact cubitlaw07_awake.mono _
      | exact LeO.none _
      | refine LeO.ite ?_ ?_
      | refine LeO.bind ?_ (fun _ => ?_)
theorem cubitlaw07_PauliTexts.mono : ∀ a0 a1 a2 a3 a4 a5 a6 a7 a8 k, LeO (cubitlaw07_PauliTexts.f k a0 a1 a2 a3 a4 a5 a6 a7 a8) (cubitlaw07_PauliTexts.f (k + 1) a0 a1 a2 a3 a4 a5 a6 a7 a8) := by
  intro a0 a1 a2 a3 a4 a5 a6 a7 a8 k
  obtain ⟨ih0, ih1, ih2⟩ := cubitlaw07_PauliTexts.mono_l k
  unfold cubitlaw07_PauliTexts.f
  repeat' first
      | (with_reducible exact ih0 _ _ _ _ _ _ _ _)
      | (with_reducible exact ih1 _ _ _ _ _ _ _ _ _)
      | (with_reducible exact ih2 _ _ _ _ _ _ _ _ _)
      | (with_reducible exact cubitlaw07_awake.mono _)
      | (with_reducible exact LeO.refl _)
      | (with_reducible exact LeO.none _)
      | (with_reducible refine LeO.ite ?_ ?_)
      | (with_reducible refine LeO.bind ?_ (fun _ => ?_))
      | exact ih0 _ _ _ _ _ _ _ _
      | exact ih1 _ _ _ _ _ _ _ _ _
      | exact ih2 _ _ _ _ _ _ _ _ _
      | exact cubitlaw07_awake.mono _
      | exact LeO.none _
      | refine LeO.ite ?_ ?_
      | refine LeO.bind ?_ (fun _ => ?_)
set_option maxHeartbeats 8000000 in
set_option maxRecDepth 100000 in
theorem cubitlaw07_PauliTexts.calls (k : Nat) (a0_0 : Int) (a0_1 : Int) (a0_2 : Int) (a0_3 : Int) (a1_0 : Int) (a1_1 : Int) (a1_2 : Int) (a1_3 : Int) (a2 : ByteArray) (r : Bool) (w : World) (h : cubitlaw07_PauliTexts.f k a0_0 a0_1 a0_2 a0_3 a1_0 a1_1 a1_2 a1_3 a2 = some r) (htrue : r = true) :
    Calls Tryd.prog 4 #[.agg #[.int .i64 a0_0, .int .u64 a0_1, .int .u64 a0_2, .int .i64 a0_3], .agg #[.int .i64 a1_0, .int .u64 a1_1, .int .u64 a1_2, .int .i64 a1_3], .string a2] w fun e w' => e = .returned (.bool r) ∧ Below w.heap.size w w' := by
  have hu26 := Tryd.underlying26
  have HB := Aside0.mk (Below.refl w.heap.size w)
  have HTRUE := Aside0.mk htrue
  clear htrue
  have H : ((cubitlaw07_awake.f k).bind fun t178 => (if t178 = true then ((pauli_Parse.f a2).bind fun bt179 => (if bt179.2.2.2.2 = 0 then ((pauli_Text.f bt179.1 bt179.2.1 bt179.2.2.1 bt179.2.2.2.1).bind fun bt185 => (if bt185.2 = 0 then (if (a2.size : Int) > 0 then (if 0 < (a2.size : Int) then (if (bt a2 0) = 43 then (if bt185.1.toList = a2.toList then (if (bt185.1.size : Int) < 1 then (some false) else (cubitlaw07_PauliTexts.j0 k a0_0 a0_1 a0_2 a0_3 a1_0 a1_1 a1_2 a1_3)) else (some false)) else (if (bt a2 0) = 45 then (if bt185.1.toList = a2.toList then (if (bt185.1.size : Int) < 1 then (some false) else (cubitlaw07_PauliTexts.j0 k a0_0 a0_1 a0_2 a0_3 a1_0 a1_1 a1_2 a1_3)) else (some false)) else (if (bt185.1.size : Int) < 1 then (some false) else (cubitlaw07_PauliTexts.j0 k a0_0 a0_1 a0_2 a0_3 a1_0 a1_1 a1_2 a1_3)))) else (none)) else (if (bt185.1.size : Int) < 1 then (some false) else (cubitlaw07_PauliTexts.j0 k a0_0 a0_1 a0_2 a0_3 a1_0 a1_1 a1_2 a1_3))) else (some false))) else (if (!(bt179.1 == 0) || (!(bt179.2.1 == 0) || (!(bt179.2.2.1 == 0) || (!(bt179.2.2.2.1 == 0))))) = true then (some false) else (cubitlaw07_PauliTexts.j0 k a0_0 a0_1 a0_2 a0_3 a1_0 a1_1 a1_2 a1_3)))) else (some false))) = some r := h
  clear h
  replace H := Option.bind_eq_some_iff.mp H
  obtain ⟨t178, A40, H⟩ := H
  replace H : (if t178 = true then ((pauli_Parse.f a2).bind fun bt179 => (if bt179.2.2.2.2 = 0 then ((pauli_Text.f bt179.1 bt179.2.1 bt179.2.2.1 bt179.2.2.2.1).bind fun bt185 => (if bt185.2 = 0 then (if (a2.size : Int) > 0 then (if 0 < (a2.size : Int) then (if (bt a2 0) = 43 then (if bt185.1.toList = a2.toList then (if (bt185.1.size : Int) < 1 then (some false) else (cubitlaw07_PauliTexts.j0 k a0_0 a0_1 a0_2 a0_3 a1_0 a1_1 a1_2 a1_3)) else (some false)) else (if (bt a2 0) = 45 then (if bt185.1.toList = a2.toList then (if (bt185.1.size : Int) < 1 then (some false) else (cubitlaw07_PauliTexts.j0 k a0_0 a0_1 a0_2 a0_3 a1_0 a1_1 a1_2 a1_3)) else (some false)) else (if (bt185.1.size : Int) < 1 then (some false) else (cubitlaw07_PauliTexts.j0 k a0_0 a0_1 a0_2 a0_3 a1_0 a1_1 a1_2 a1_3)))) else (none)) else (if (bt185.1.size : Int) < 1 then (some false) else (cubitlaw07_PauliTexts.j0 k a0_0 a0_1 a0_2 a0_3 a1_0 a1_1 a1_2 a1_3))) else (some false))) else (if (!(bt179.1 == 0) || (!(bt179.2.1 == 0) || (!(bt179.2.2.1 == 0) || (!(bt179.2.2.2.1 == 0))))) = true then (some false) else (cubitlaw07_PauliTexts.j0 k a0_0 a0_1 a0_2 a0_3 a1_0 a1_1 a1_2 a1_3)))) else (some false)) = some r := H
  have A4 := Aside0.mk A40
  clear A40
  by_cases c5 : t178 = true
  · subst c5
    have H1 : ((pauli_Parse.f a2).bind fun bt179 => (if bt179.2.2.2.2 = 0 then ((pauli_Text.f bt179.1 bt179.2.1 bt179.2.2.1 bt179.2.2.2.1).bind fun bt185 => (if bt185.2 = 0 then (if (a2.size : Int) > 0 then (if 0 < (a2.size : Int) then (if (bt a2 0) = 43 then (if bt185.1.toList = a2.toList then (if (bt185.1.size : Int) < 1 then (some false) else (cubitlaw07_PauliTexts.j0 k a0_0 a0_1 a0_2 a0_3 a1_0 a1_1 a1_2 a1_3)) else (some false)) else (if (bt a2 0) = 45 then (if bt185.1.toList = a2.toList then (if (bt185.1.size : Int) < 1 then (some false) else (cubitlaw07_PauliTexts.j0 k a0_0 a0_1 a0_2 a0_3 a1_0 a1_1 a1_2 a1_3)) else (some false)) else (if (bt185.1.size : Int) < 1 then (some false) else (cubitlaw07_PauliTexts.j0 k a0_0 a0_1 a0_2 a0_3 a1_0 a1_1 a1_2 a1_3)))) else (none)) else (if (bt185.1.size : Int) < 1 then (some false) else (cubitlaw07_PauliTexts.j0 k a0_0 a0_1 a0_2 a0_3 a1_0 a1_1 a1_2 a1_3))) else (some false))) else (if (!(bt179.1 == 0) || (!(bt179.2.1 == 0) || (!(bt179.2.2.1 == 0) || (!(bt179.2.2.2.1 == 0))))) = true then (some false) else (cubitlaw07_PauliTexts.j0 k a0_0 a0_1 a0_2 a0_3 a1_0 a1_1 a1_2 a1_3)))) = some r := by rw [if_pos rfl] at H; exact H
    clear H
    have H := H1
    clear H1
    replace H := Option.bind_eq_some_iff.mp H
    obtain ⟨⟨t179, t180, t181, t182, t183⟩, A60, H⟩ := H
    replace H : (if t183 = 0 then ((pauli_Text.f t179 t180 t181 t182).bind fun bt185 => (if bt185.2 = 0 then (if (a2.size : Int) > 0 then (if 0 < (a2.size : Int) then (if (bt a2 0) = 43 then (if bt185.1.toList = a2.toList then (if (bt185.1.size : Int) < 1 then (some false) else (cubitlaw07_PauliTexts.j0 k a0_0 a0_1 a0_2 a0_3 a1_0 a1_1 a1_2 a1_3)) else (some false)) else (if (bt a2 0) = 45 then (if bt185.1.toList = a2.toList then (if (bt185.1.size : Int) < 1 then (some false) else (cubitlaw07_PauliTexts.j0 k a0_0 a0_1 a0_2 a0_3 a1_0 a1_1 a1_2 a1_3)) else (some false)) else (if (bt185.1.size : Int) < 1 then (some false) else (cubitlaw07_PauliTexts.j0 k a0_0 a0_1 a0_2 a0_3 a1_0 a1_1 a1_2 a1_3)))) else (none)) else (if (bt185.1.size : Int) < 1 then (some false) else (cubitlaw07_PauliTexts.j0 k a0_0 a0_1 a0_2 a0_3 a1_0 a1_1 a1_2 a1_3))) else (some false))) else (if (!(t179 == 0) || (!(t180 == 0) || (!(t181 == 0) || (!(t182 == 0))))) = true then (some false) else (cubitlaw07_PauliTexts.j0 k a0_0 a0_1 a0_2 a0_3 a1_0 a1_1 a1_2 a1_3))) = some r := H
    have A6 := Aside0.mk A60
    clear A60
    have HC7 := Aside0.mk H
    clear H
    go_enter Tryd.func4, Tryd.ntmps4
    go_upto_if 30 with (first | ((with_reducible refine gate_dst (N := 3) rfl ?_); (try (refine gate_guard (by rfl) ?_; dsimp only)); refine box_event ?hg (N := 3) ?hd (cs := #[.int .i64 a0_0, .int .u64 a0_1, .int .u64 a0_2, .int .i64 a0_3]) (t := 26) ?hr ?_; (case hd => rfl); (case hg => rfl); (case hr => first | (go_simp; done) | (go_simp; rfl)); intro gb176 hg w8 hbox hb; have n0_ := Aside0.mk (below_step (by repeat (first | (with_reducible first | exact HB.out | apply below_alloc | apply pw_below_drewN | apply below_drew1) | exact HB.out)) hb); have n1_ := Aside0.mk (hbox); have n2_ := Aside0.mk ((by rw [hg]; exact (below_size (by repeat (first | (with_reducible first | exact HB.out | apply below_alloc | apply pw_below_drewN | apply below_drew1) | exact HB.out))) : w.heap.size ≤ gb176)); have n3_ := Aside0.mk ((by rw [hg]; exact (below_size (by repeat (first | (with_reducible first | exact HB.out | apply below_alloc | apply pw_below_drewN | apply below_drew1) | exact HB.out))) : w.heap.size ≤ gb176)); clear HB; have HB := n0_; have BK176 := n1_; have GW176 := n2_; have GE176 := n3_; clear n0_ n1_ n2_ n3_; clear hb hbox hg) | ((with_reducible refine gate_dst (N := 4) rfl ?_); (try (refine gate_guard (by rfl) ?_; dsimp only)); refine box_event ?hg (N := 4) ?hd (cs := #[.int .i64 a1_0, .int .u64 a1_1, .int .u64 a1_2, .int .i64 a1_3]) (t := 26) ?hr ?_; (case hd => rfl); (case hg => rfl); (case hr => first | (go_simp; done) | (go_simp; rfl)); intro gb177 hg w9 hbox hb; have n0_ := Aside0.mk (blk_below (g := gb176) (o := .cells #[.int .i64 a0_0, .int .u64 a0_1, .int .u64 a0_2, .int .i64 a0_3] 26 (0, 0)) (by (with_reducible repeat (first | refine blk_drewN ?_ _ | refine blk_drew ?_ | refine blk_alloc ?_ _)); exact BK176.out) hb); have n1_ := Aside0.mk (below_step (by repeat (first | (with_reducible first | exact HB.out | apply below_alloc | apply pw_below_drewN | apply below_drew1 | refine below_set ?_ GE176.out) | exact HB.out)) hb); have n2_ := Aside0.mk (hbox); have n3_ := Aside0.mk ((by rw [hg]; exact (below_size (by repeat (first | (with_reducible first | exact HB.out | apply below_alloc | apply pw_below_drewN | apply below_drew1 | refine below_set ?_ GE176.out) | exact HB.out))) : w.heap.size ≤ gb177)); have n4_ := Aside0.mk ((by rw [hg]; exact (below_size (by repeat (first | (with_reducible first | exact HB.out | apply below_alloc | apply pw_below_drewN | apply below_drew1 | refine below_set ?_ GE176.out) | exact HB.out))) : w.heap.size ≤ gb177)); have n5_ := Aside0.mk ((by rw [hg]; exact Nat.ne_of_lt (blk_lt (g := gb176) (o := .cells #[.int .i64 a0_0, .int .u64 a0_1, .int .u64 a0_2, .int .i64 a0_3] 26 (0, 0)) (by (with_reducible repeat (first | refine blk_drewN ?_ _ | refine blk_drew ?_ | refine blk_alloc ?_ _)); exact BK176.out)) : gb176 ≠ gb177)); have n6_ := Aside0.mk ((by rw [hg]; exact Nat.ne_of_gt (blk_lt (g := gb176) (o := .cells #[.int .i64 a0_0, .int .u64 a0_1, .int .u64 a0_2, .int .i64 a0_3] 26 (0, 0)) (by (with_reducible repeat (first | refine blk_drewN ?_ _ | refine blk_drew ?_ | refine blk_alloc ?_ _)); exact BK176.out)) : gb177 ≠ gb176)); clear BK176; clear HB; have BK176 := n0_; have HB := n1_; have BK177 := n2_; have GW177 := n3_; have GE177 := n4_; have NB176_177 := n5_; have NB177_176 := n6_; clear n0_ n1_ n2_ n3_ n4_ n5_ n6_; clear hb hbox hg) | ((with_reducible refine gate_callee (f := 5) rfl ?_); refine goesL_ (some 22) rfl rfl Tryd.func5 (by kernel_rfl) rfl #[] rfl (by (try simp only [List.map_toArray, List.map_cons, List.map_nil]); first | done | rfl | (simp only [List.length_drop, List.length_take]; rfl)) ?_; (with_reducible refine (cubitlaw07_awake.calls k  true _ A4.out).mono ?_); rintro e w10 ⟨rfl, hb⟩; refine ⟨_, rfl, ?_⟩; have n0_ := Aside0.mk (blk_below (g := gb176) (o := .cells #[.int .i64 a0_0, .int .u64 a0_1, .int .u64 a0_2, .int .i64 a0_3] 26 (0, 0)) (by (with_reducible repeat (first | refine blk_drewN ?_ _ | refine blk_drew ?_ | refine blk_alloc ?_ _)); exact BK176.out) hb); have n1_ := Aside0.mk (blk_below (g := gb177) (o := .cells #[.int .i64 a1_0, .int .u64 a1_1, .int .u64 a1_2, .int .i64 a1_3] 26 (0, 0)) (by (with_reducible repeat (first | refine blk_drewN ?_ _ | refine blk_drew ?_ | refine blk_alloc ?_ _)); exact BK177.out) hb); have n2_ := Aside0.mk (below_step (by repeat (first | (with_reducible first | exact HB.out | apply below_alloc | apply pw_below_drewN | apply below_drew1 | refine below_set ?_ GE176.out | refine below_set ?_ GE177.out) | exact HB.out)) hb); clear BK176; clear BK177; clear HB; have BK176 := n0_; have BK177 := n1_; have HB := n2_; clear n0_ n1_ n2_; (try clear hb); (try clear hb2); (try clear hk); (try clear hi)) | ((with_reducible refine gate_callee (f := 7) rfl ?_); refine goesL_ (some 26) rfl rfl Tryd.func7 (by kernel_rfl) rfl #[.string a2] rfl (by (try simp only [List.map_toArray, List.map_cons, List.map_nil]); first | done | rfl | (simp only [List.length_drop, List.length_take]; rfl)) ?_; (with_reducible refine (pauli_Parse.calls a2 t179 t180 t181 t182 t183 _ A6.out).mono ?_); rintro e w11 ⟨rfl, hb⟩; refine ⟨_, rfl, ?_⟩; have n0_ := Aside0.mk (blk_below (g := gb176) (o := .cells #[.int .i64 a0_0, .int .u64 a0_1, .int .u64 a0_2, .int .i64 a0_3] 26 (0, 0)) (by (with_reducible repeat (first | refine blk_drewN ?_ _ | refine blk_drew ?_ | refine blk_alloc ?_ _)); exact BK176.out) hb); have n1_ := Aside0.mk (blk_below (g := gb177) (o := .cells #[.int .i64 a1_0, .int .u64 a1_1, .int .u64 a1_2, .int .i64 a1_3] 26 (0, 0)) (by (with_reducible repeat (first | refine blk_drewN ?_ _ | refine blk_drew ?_ | refine blk_alloc ?_ _)); exact BK177.out) hb); have n2_ := Aside0.mk (below_step (by repeat (first | (with_reducible first | exact HB.out | apply below_alloc | apply pw_below_drewN | apply below_drew1 | refine below_set ?_ GE176.out | refine below_set ?_ GE177.out) | exact HB.out)) hb); clear BK176; clear BK177; clear HB; have BK176 := n0_; have BK177 := n1_; have HB := n2_; clear n0_ n1_ n2_; (try clear hb); (try clear hb2); (try clear hk); (try clear hi)) | ((with_reducible refine gate_dst (N := 7) rfl ?_); (try (refine gate_guard (by rfl) ?_; dsimp only)); refine box_event ?hg (N := 7) ?hd (cs := #[.int .i64 0, .int .u64 0, .int .u64 0, .int .i64 0]) (t := 26) ?hr ?_; (case hd => rfl); (case hg => rfl); (case hr => first | (go_simp; done) | (go_simp; rfl)); intro gb184 hg w12 hbox hb; have n0_ := Aside0.mk (blk_below (g := gb176) (o := .cells #[.int .i64 a0_0, .int .u64 a0_1, .int .u64 a0_2, .int .i64 a0_3] 26 (0, 0)) (by (with_reducible repeat (first | refine blk_drewN ?_ _ | refine blk_drew ?_ | refine blk_alloc ?_ _)); exact BK176.out) hb); have n1_ := Aside0.mk (blk_below (g := gb177) (o := .cells #[.int .i64 a1_0, .int .u64 a1_1, .int .u64 a1_2, .int .i64 a1_3] 26 (0, 0)) (by (with_reducible repeat (first | refine blk_drewN ?_ _ | refine blk_drew ?_ | refine blk_alloc ?_ _)); exact BK177.out) hb); have n2_ := Aside0.mk (below_step (by repeat (first | (with_reducible first | exact HB.out | apply below_alloc | apply pw_below_drewN | apply below_drew1 | refine below_set ?_ GE176.out | refine below_set ?_ GE177.out) | exact HB.out)) hb); have n3_ := Aside0.mk (hbox); have n4_ := Aside0.mk ((by rw [hg]; exact (below_size (by repeat (first | (with_reducible first | exact HB.out | apply below_alloc | apply pw_below_drewN | apply below_drew1 | refine below_set ?_ GE176.out | refine below_set ?_ GE177.out) | exact HB.out))) : w.heap.size ≤ gb184)); have n5_ := Aside0.mk ((by rw [hg]; exact (below_size (by repeat (first | (with_reducible first | exact HB.out | apply below_alloc | apply pw_below_drewN | apply below_drew1 | refine below_set ?_ GE176.out | refine below_set ?_ GE177.out) | exact HB.out))) : w.heap.size ≤ gb184)); have n6_ := Aside0.mk ((by rw [hg]; exact Nat.ne_of_lt (blk_lt (g := gb176) (o := .cells #[.int .i64 a0_0, .int .u64 a0_1, .int .u64 a0_2, .int .i64 a0_3] 26 (0, 0)) (by (with_reducible repeat (first | refine blk_drewN ?_ _ | refine blk_drew ?_ | refine blk_alloc ?_ _)); exact BK176.out)) : gb176 ≠ gb184)); have n7_ := Aside0.mk ((by rw [hg]; exact Nat.ne_of_gt (blk_lt (g := gb176) (o := .cells #[.int .i64 a0_0, .int .u64 a0_1, .int .u64 a0_2, .int .i64 a0_3] 26 (0, 0)) (by (with_reducible repeat (first | refine blk_drewN ?_ _ | refine blk_drew ?_ | refine blk_alloc ?_ _)); exact BK176.out)) : gb184 ≠ gb176)); have n8_ := Aside0.mk ((by rw [hg]; exact Nat.ne_of_lt (blk_lt (g := gb177) (o := .cells #[.int .i64 a1_0, .int .u64 a1_1, .int .u64 a1_2, .int .i64 a1_3] 26 (0, 0)) (by (with_reducible repeat (first | refine blk_drewN ?_ _ | refine blk_drew ?_ | refine blk_alloc ?_ _)); exact BK177.out)) : gb177 ≠ gb184)); have n9_ := Aside0.mk ((by rw [hg]; exact Nat.ne_of_gt (blk_lt (g := gb177) (o := .cells #[.int .i64 a1_0, .int .u64 a1_1, .int .u64 a1_2, .int .i64 a1_3] 26 (0, 0)) (by (with_reducible repeat (first | refine blk_drewN ?_ _ | refine blk_drew ?_ | refine blk_alloc ?_ _)); exact BK177.out)) : gb184 ≠ gb177)); clear BK176; clear BK177; clear HB; have BK176 := n0_; have BK177 := n1_; have HB := n2_; have BK184 := n3_; have GW184 := n4_; have GE184 := n5_; have NB176_184 := n6_; have NB184_176 := n7_; have NB177_184 := n8_; have NB184_177 := n9_; clear n0_ n1_ n2_ n3_ n4_ n5_ n6_ n7_ n8_ n9_; clear hb hbox hg; have hnb13 := NB184_176.out; have hnc13 := NB176_184.out; have hnb14 := NB184_177.out; have hnc14 := NB177_184.out; have hcz15_0 : w12.cell? ⟨gb184, 0, none⟩ = some (.int .i64 0) := (blk_cell BK184.out 0).trans rfl; have hcz15_1 : w12.cell? ⟨gb184, 1, none⟩ = some (.int .u64 0) := (blk_cell BK184.out 1).trans rfl; have hcz15_2 : w12.cell? ⟨gb184, 2, none⟩ = some (.int .u64 0) := (blk_cell BK184.out 2).trans rfl; have hcz15_3 : w12.cell? ⟨gb184, 3, none⟩ = some (.int .i64 0) := (blk_cell BK184.out 3).trans rfl; have hfz15_0 := blk_frozen BK184.out 0; have hfz15_1 := blk_frozen BK184.out 1; have hfz15_2 := blk_frozen BK184.out 2; have hfz15_3 := blk_frozen BK184.out 3))
    (try simp only [Act.put, List.setIfInBounds_toArray, List.set_cons_zero, List.set_cons_succ])
    go_cut [] (fun wc => ∃ (kq : Nat), Aside0 (cubitlaw07_PauliTexts.j0 kq a0_0 a0_1 a0_2 a0_3 a1_0 a1_1 a1_2 a1_3 = some r) ∧ Aside0 (kq ≤ k) ∧ Aside0 (wc.heap[gb176]? = some (.cells #[.int .i64 a0_0, .int .u64 a0_1, .int .u64 a0_2, .int .i64 a0_3] 26 (0, 0))) ∧ Aside0 (wc.heap[gb177]? = some (.cells #[.int .i64 a1_0, .int .u64 a1_1, .int .u64 a1_2, .int .i64 a1_3] 26 (0, 0))) ∧ Aside0 (wc.heap[gb184]? = some (.cells #[.int .i64 t179, .int .u64 t180, .int .u64 t181, .int .i64 t182] 26 (0, 0))) ∧ Aside0 (Below w.heap.size w wc))
    case first =>
      have H := HC7.out
      clear HC7
      by_cases c16 : t183 = 0
      · rw [if_pos c16] at H
        have c16b0 : (t183 == 0) = true := beq_iff_eq.mpr c16
        have c16b1 : (t183 != 0) = false := bne_eq_false_iff_eq.mpr c16
        clear c16
        (first | rw [c16b0] | (simp only [i64_w, i32_w]; rw [c16b0]) | skip)
        replace H := Option.bind_eq_some_iff.mp H
        obtain ⟨⟨t185, t186⟩, A170, H⟩ := H
        replace H : (if t186 = 0 then (if (a2.size : Int) > 0 then (if 0 < (a2.size : Int) then (if (bt a2 0) = 43 then (if t185.toList = a2.toList then (if (t185.size : Int) < 1 then (some false) else (cubitlaw07_PauliTexts.j0 k a0_0 a0_1 a0_2 a0_3 a1_0 a1_1 a1_2 a1_3)) else (some false)) else (if (bt a2 0) = 45 then (if t185.toList = a2.toList then (if (t185.size : Int) < 1 then (some false) else (cubitlaw07_PauliTexts.j0 k a0_0 a0_1 a0_2 a0_3 a1_0 a1_1 a1_2 a1_3)) else (some false)) else (if (t185.size : Int) < 1 then (some false) else (cubitlaw07_PauliTexts.j0 k a0_0 a0_1 a0_2 a0_3 a1_0 a1_1 a1_2 a1_3)))) else (none)) else (if (t185.size : Int) < 1 then (some false) else (cubitlaw07_PauliTexts.j0 k a0_0 a0_1 a0_2 a0_3 a1_0 a1_1 a1_2 a1_3))) else (some false)) = some r := H
        have A17 := Aside0.mk A170
        clear A170
        by_cases c18 : t186 = 0
        · rw [if_pos c18] at H
          have c18b0 : (t186 == 0) = true := beq_iff_eq.mpr c18
          have c18b1 : (t186 != 0) = false := bne_eq_false_iff_eq.mpr c18
          clear c18
          by_cases c19 : (a2.size : Int) > 0
          · rw [if_pos c19] at H
            have c19b0 : decide (0 < (a2.size : Int)) = true := decide_eq_true c19
            have c19b1 : decide (0 < a2.size) = true := decide_eq_true (by omega)
            clear c19
            by_cases c20 : 0 < (a2.size : Int)
            · rw [if_pos c20] at H
              have c20b0 : decide (0 < (a2.size : Int)) = true := decide_eq_true c20
              have c20b1 : decide (0 < a2.size) = true := decide_eq_true (by omega)
              clear c20
              by_cases c22 : (bt a2 0) = 43
              · rw [if_pos c22] at H
                have c22b0 : ((bt a2 0) == 43) = true := beq_iff_eq.mpr c22
                have c22b1 : ((bt a2 0) != 43) = false := bne_eq_false_iff_eq.mpr c22
                clear c22
                by_cases c23 : t185.toList = a2.toList
                · rw [if_pos c23] at H
                  have c23b0 : (t185.toList == a2.toList) = true := beq_iff_eq.mpr c23
                  have c23b1 : (t185.toList != a2.toList) = false := bne_eq_false_iff_eq.mpr c23
                  clear c23
                  by_cases c24 : (t185.size : Int) < 1
                  · rw [if_pos c24] at H
                    have c24b0 : decide ((t185.size : Int) < 1) = true := decide_eq_true c24
                    have c24b1 : decide (t185.size < 1) = true := decide_eq_true (by omega)
                    clear c24
                    exact absurd (HTRUE.out.symm.trans (Option.some.inj H).symm) (by decide)
                  · rw [if_neg c24] at H
                    have c24b0 : decide ((t185.size : Int) < 1) = false := decide_eq_false c24
                    have c24b1 : decide (t185.size < 1) = false := decide_eq_false (by omega)
                    clear c24
                    have H' := Aside0.mk H
                    clear H
                    have hnb25 := NB184_176.out
                    have hnc25 := NB176_184.out
                    have hnb26 := NB184_177.out
                    have hnc26 := NB177_184.out
                    have hcz27_0 : w12.cell? ⟨gb184, 0, none⟩ = some (.int .i64 0) := (blk_cell BK184.out 0).trans rfl
                    have hcz27_1 : w12.cell? ⟨gb184, 1, none⟩ = some (.int .u64 0) := (blk_cell BK184.out 1).trans rfl
                    have hcz27_2 : w12.cell? ⟨gb184, 2, none⟩ = some (.int .u64 0) := (blk_cell BK184.out 2).trans rfl
                    have hcz27_3 : w12.cell? ⟨gb184, 3, none⟩ = some (.int .i64 0) := (blk_cell BK184.out 3).trans rfl
                    have hfz27_0 := blk_frozen BK184.out 0
                    have hfz27_1 := blk_frozen BK184.out 1
                    have hfz27_2 := blk_frozen BK184.out 2
                    have hfz27_3 := blk_frozen BK184.out 3
                    go_wp2_with (first | ((with_reducible refine gate_callee (f := 8) rfl ?_); refine goesL_ (some 33) rfl rfl Tryd.func8 (by kernel_rfl) rfl #[.agg #[.int .i64 t179, .int .u64 t180, .int .u64 t181, .int .i64 t182]] rfl (by (try simp only [List.map_toArray, List.map_cons, List.map_nil]); first | done | rfl | (simp only [List.length_drop, List.length_take]; rfl)) ?_; (with_reducible refine (pauli_Text.calls t179 t180 t181 t182 t185 t186 _ A17.out).mono ?_); rintro e w28 ⟨rfl, hb⟩; refine ⟨_, rfl, ?_⟩; have n0_ := Aside0.mk (blk_below (g := gb176) (o := .cells #[.int .i64 a0_0, .int .u64 a0_1, .int .u64 a0_2, .int .i64 a0_3] 26 (0, 0)) (by (with_reducible repeat (first | refine blk_drewN ?_ _ | refine blk_drew ?_ | refine blk_alloc ?_ _)); refine blk_far ?_ NB176_184.out _; (with_reducible repeat (first | refine blk_drewN ?_ _ | refine blk_drew ?_ | refine blk_alloc ?_ _)); refine blk_far ?_ NB176_184.out _; (with_reducible repeat (first | refine blk_drewN ?_ _ | refine blk_drew ?_ | refine blk_alloc ?_ _)); refine blk_far ?_ NB176_184.out _; (with_reducible repeat (first | refine blk_drewN ?_ _ | refine blk_drew ?_ | refine blk_alloc ?_ _)); refine blk_far ?_ NB176_184.out _; (with_reducible repeat (first | refine blk_drewN ?_ _ | refine blk_drew ?_ | refine blk_alloc ?_ _)); exact BK176.out) hb); have n1_ := Aside0.mk (blk_below (g := gb177) (o := .cells #[.int .i64 a1_0, .int .u64 a1_1, .int .u64 a1_2, .int .i64 a1_3] 26 (0, 0)) (by (with_reducible repeat (first | refine blk_drewN ?_ _ | refine blk_drew ?_ | refine blk_alloc ?_ _)); refine blk_far ?_ NB177_184.out _; (with_reducible repeat (first | refine blk_drewN ?_ _ | refine blk_drew ?_ | refine blk_alloc ?_ _)); refine blk_far ?_ NB177_184.out _; (with_reducible repeat (first | refine blk_drewN ?_ _ | refine blk_drew ?_ | refine blk_alloc ?_ _)); refine blk_far ?_ NB177_184.out _; (with_reducible repeat (first | refine blk_drewN ?_ _ | refine blk_drew ?_ | refine blk_alloc ?_ _)); refine blk_far ?_ NB177_184.out _; (with_reducible repeat (first | refine blk_drewN ?_ _ | refine blk_drew ?_ | refine blk_alloc ?_ _)); exact BK177.out) hb); have n2_ := Aside0.mk (blk_below (g := gb184) (o := .cells #[.int .i64 t179, .int .u64 t180, .int .u64 t181, .int .i64 t182] 26 (0, 0)) (by (with_reducible repeat (first | refine blk_drewN ?_ _ | refine blk_drew ?_ | refine blk_alloc ?_ _)); refine blk_put (cs := #[.int .i64 t179, .int .u64 t180, .int .u64 t181, .int .i64 0]) ?_ 3 _ rfl; (with_reducible repeat (first | refine blk_drewN ?_ _ | refine blk_drew ?_ | refine blk_alloc ?_ _)); refine blk_put (cs := #[.int .i64 t179, .int .u64 t180, .int .u64 0, .int .i64 0]) ?_ 2 _ rfl; (with_reducible repeat (first | refine blk_drewN ?_ _ | refine blk_drew ?_ | refine blk_alloc ?_ _)); refine blk_put (cs := #[.int .i64 t179, .int .u64 0, .int .u64 0, .int .i64 0]) ?_ 1 _ rfl; (with_reducible repeat (first | refine blk_drewN ?_ _ | refine blk_drew ?_ | refine blk_alloc ?_ _)); refine blk_put (cs := #[.int .i64 0, .int .u64 0, .int .u64 0, .int .i64 0]) ?_ 0 _ rfl; (with_reducible repeat (first | refine blk_drewN ?_ _ | refine blk_drew ?_ | refine blk_alloc ?_ _)); exact BK184.out) hb); have n3_ := Aside0.mk (below_step (by repeat (first | (with_reducible first | exact HB.out | apply below_alloc | apply pw_below_drewN | apply below_drew1 | refine below_set ?_ GE176.out | refine below_set ?_ GE177.out | refine below_set ?_ GE184.out) | exact HB.out)) hb); clear BK176; clear BK177; clear BK184; clear HB; have BK176 := n0_; have BK177 := n1_; have BK184 := n2_; have HB := n3_; clear n0_ n1_ n2_ n3_; (try clear hb); (try clear hb2); (try clear hk); (try clear hi); have p21 : 0 ≤ (0 : Int) := (by omega); have q21 : 0 < a2.size := (by have : (0 : Int) < (a2.size : Int) := of_decide_eq_true (by first | (with_reducible assumption) | assumption); omega); have hx21 : ∀ h : 0 < a2.size, ((a2[0]'h).toNat : Int) = bt a2 0 := bt_at a2 0; clear p21; have qi21 : (0 < (a2.size : Int)) = True := eq_true (of_decide_eq_true (by first | (with_reducible assumption) | assumption)); replace q21 := eq_true q21))
                    go_meet
                    case rel => exact ⟨_, H', ⟨by first | omega | exact Nat.le_refl _⟩, ⟨by (with_reducible repeat (first | refine blk_drewN ?_ _ | refine blk_drew ?_ | refine blk_alloc ?_ _)); exact BK176.out⟩, ⟨by (with_reducible repeat (first | refine blk_drewN ?_ _ | refine blk_drew ?_ | refine blk_alloc ?_ _)); exact BK177.out⟩, ⟨by (with_reducible repeat (first | refine blk_drewN ?_ _ | refine blk_drew ?_ | refine blk_alloc ?_ _)); exact BK184.out⟩, ⟨by repeat (first | (with_reducible first | exact HB.out | apply below_alloc | apply pw_below_drewN | apply below_drew1 | refine below_set ?_ GE176.out | refine below_set ?_ GE177.out | refine below_set ?_ GE184.out) | exact HB.out)⟩⟩
                · rw [if_neg c23] at H
                  have c23b0 : (t185.toList == a2.toList) = false := beq_eq_false_iff_ne.mpr c23
                  have c23b1 : (t185.toList != a2.toList) = true := bne_iff_ne.mpr c23
                  exact absurd (HTRUE.out.symm.trans (Option.some.inj H).symm) (by decide)
              · rw [if_neg c22] at H
                have c22b0 : ((bt a2 0) == 43) = false := beq_eq_false_iff_ne.mpr c22
                have c22b1 : ((bt a2 0) != 43) = true := bne_iff_ne.mpr c22
                by_cases c30 : (bt a2 0) = 45
                · rw [if_pos c30] at H
                  have c30b0 : ((bt a2 0) == 45) = true := beq_iff_eq.mpr c30
                  have c30b1 : ((bt a2 0) != 45) = false := bne_eq_false_iff_eq.mpr c30
                  clear c30
                  by_cases c31 : t185.toList = a2.toList
                  · rw [if_pos c31] at H
                    have c31b0 : (t185.toList == a2.toList) = true := beq_iff_eq.mpr c31
                    have c31b1 : (t185.toList != a2.toList) = false := bne_eq_false_iff_eq.mpr c31
                    clear c31
                    by_cases c32 : (t185.size : Int) < 1
                    · rw [if_pos c32] at H
                      have c32b0 : decide ((t185.size : Int) < 1) = true := decide_eq_true c32
                      have c32b1 : decide (t185.size < 1) = true := decide_eq_true (by omega)
                      clear c32
                      exact absurd (HTRUE.out.symm.trans (Option.some.inj H).symm) (by decide)
                    · rw [if_neg c32] at H
                      have c32b0 : decide ((t185.size : Int) < 1) = false := decide_eq_false c32
                      have c32b1 : decide (t185.size < 1) = false := decide_eq_false (by omega)
                      clear c32
                      have H' := Aside0.mk H
                      clear H
                      have hnb33 := NB184_176.out
                      have hnc33 := NB176_184.out
                      have hnb34 := NB184_177.out
                      have hnc34 := NB177_184.out
                      have hcz35_0 : w12.cell? ⟨gb184, 0, none⟩ = some (.int .i64 0) := (blk_cell BK184.out 0).trans rfl
                      have hcz35_1 : w12.cell? ⟨gb184, 1, none⟩ = some (.int .u64 0) := (blk_cell BK184.out 1).trans rfl
                      have hcz35_2 : w12.cell? ⟨gb184, 2, none⟩ = some (.int .u64 0) := (blk_cell BK184.out 2).trans rfl
                      have hcz35_3 : w12.cell? ⟨gb184, 3, none⟩ = some (.int .i64 0) := (blk_cell BK184.out 3).trans rfl
                      have hfz35_0 := blk_frozen BK184.out 0
                      have hfz35_1 := blk_frozen BK184.out 1
                      have hfz35_2 := blk_frozen BK184.out 2
                      have hfz35_3 := blk_frozen BK184.out 3
                      go_wp2_with (first | ((with_reducible refine gate_callee (f := 8) rfl ?_); refine goesL_ (some 33) rfl rfl Tryd.func8 (by kernel_rfl) rfl #[.agg #[.int .i64 t179, .int .u64 t180, .int .u64 t181, .int .i64 t182]] rfl (by (try simp only [List.map_toArray, List.map_cons, List.map_nil]); first | done | rfl | (simp only [List.length_drop, List.length_take]; rfl)) ?_; (with_reducible refine (pauli_Text.calls t179 t180 t181 t182 t185 t186 _ A17.out).mono ?_); rintro e w36 ⟨rfl, hb⟩; refine ⟨_, rfl, ?_⟩; have n0_ := Aside0.mk (blk_below (g := gb176) (o := .cells #[.int .i64 a0_0, .int .u64 a0_1, .int .u64 a0_2, .int .i64 a0_3] 26 (0, 0)) (by (with_reducible repeat (first | refine blk_drewN ?_ _ | refine blk_drew ?_ | refine blk_alloc ?_ _)); refine blk_far ?_ NB176_184.out _; (with_reducible repeat (first | refine blk_drewN ?_ _ | refine blk_drew ?_ | refine blk_alloc ?_ _)); refine blk_far ?_ NB176_184.out _; (with_reducible repeat (first | refine blk_drewN ?_ _ | refine blk_drew ?_ | refine blk_alloc ?_ _)); refine blk_far ?_ NB176_184.out _; (with_reducible repeat (first | refine blk_drewN ?_ _ | refine blk_drew ?_ | refine blk_alloc ?_ _)); refine blk_far ?_ NB176_184.out _; (with_reducible repeat (first | refine blk_drewN ?_ _ | refine blk_drew ?_ | refine blk_alloc ?_ _)); exact BK176.out) hb); have n1_ := Aside0.mk (blk_below (g := gb177) (o := .cells #[.int .i64 a1_0, .int .u64 a1_1, .int .u64 a1_2, .int .i64 a1_3] 26 (0, 0)) (by (with_reducible repeat (first | refine blk_drewN ?_ _ | refine blk_drew ?_ | refine blk_alloc ?_ _)); refine blk_far ?_ NB177_184.out _; (with_reducible repeat (first | refine blk_drewN ?_ _ | refine blk_drew ?_ | refine blk_alloc ?_ _)); refine blk_far ?_ NB177_184.out _; (with_reducible repeat (first | refine blk_drewN ?_ _ | refine blk_drew ?_ | refine blk_alloc ?_ _)); refine blk_far ?_ NB177_184.out _; (with_reducible repeat (first | refine blk_drewN ?_ _ | refine blk_drew ?_ | refine blk_alloc ?_ _)); refine blk_far ?_ NB177_184.out _; (with_reducible repeat (first | refine blk_drewN ?_ _ | refine blk_drew ?_ | refine blk_alloc ?_ _)); exact BK177.out) hb); have n2_ := Aside0.mk (blk_below (g := gb184) (o := .cells #[.int .i64 t179, .int .u64 t180, .int .u64 t181, .int .i64 t182] 26 (0, 0)) (by (with_reducible repeat (first | refine blk_drewN ?_ _ | refine blk_drew ?_ | refine blk_alloc ?_ _)); refine blk_put (cs := #[.int .i64 t179, .int .u64 t180, .int .u64 t181, .int .i64 0]) ?_ 3 _ rfl; (with_reducible repeat (first | refine blk_drewN ?_ _ | refine blk_drew ?_ | refine blk_alloc ?_ _)); refine blk_put (cs := #[.int .i64 t179, .int .u64 t180, .int .u64 0, .int .i64 0]) ?_ 2 _ rfl; (with_reducible repeat (first | refine blk_drewN ?_ _ | refine blk_drew ?_ | refine blk_alloc ?_ _)); refine blk_put (cs := #[.int .i64 t179, .int .u64 0, .int .u64 0, .int .i64 0]) ?_ 1 _ rfl; (with_reducible repeat (first | refine blk_drewN ?_ _ | refine blk_drew ?_ | refine blk_alloc ?_ _)); refine blk_put (cs := #[.int .i64 0, .int .u64 0, .int .u64 0, .int .i64 0]) ?_ 0 _ rfl; (with_reducible repeat (first | refine blk_drewN ?_ _ | refine blk_drew ?_ | refine blk_alloc ?_ _)); exact BK184.out) hb); have n3_ := Aside0.mk (below_step (by repeat (first | (with_reducible first | exact HB.out | apply below_alloc | apply pw_below_drewN | apply below_drew1 | refine below_set ?_ GE176.out | refine below_set ?_ GE177.out | refine below_set ?_ GE184.out) | exact HB.out)) hb); clear BK176; clear BK177; clear BK184; clear HB; have BK176 := n0_; have BK177 := n1_; have BK184 := n2_; have HB := n3_; clear n0_ n1_ n2_ n3_; (try clear hb); (try clear hb2); (try clear hk); (try clear hi); have p21 : 0 ≤ (0 : Int) := (by omega); have q21 : 0 < a2.size := (by have : (0 : Int) < (a2.size : Int) := of_decide_eq_true (by first | (with_reducible assumption) | assumption); omega); have hx21 : ∀ h : 0 < a2.size, ((a2[0]'h).toNat : Int) = bt a2 0 := bt_at a2 0; clear p21; have qi21 : (0 < (a2.size : Int)) = True := eq_true (of_decide_eq_true (by first | (with_reducible assumption) | assumption)); replace q21 := eq_true q21; have p29 : 0 ≤ (0 : Int) := (by omega); have q29 : 0 < a2.size := (by have : (0 : Int) < (a2.size : Int) := of_decide_eq_true (by first | (with_reducible assumption) | assumption); omega); have hx29 : ∀ h : 0 < a2.size, ((a2[0]'h).toNat : Int) = bt a2 0 := bt_at a2 0; clear p29; have qi29 : (0 < (a2.size : Int)) = True := eq_true (of_decide_eq_true (by first | (with_reducible assumption) | assumption)); replace q29 := eq_true q29))
                      go_meet
                      case rel => exact ⟨_, H', ⟨by first | omega | exact Nat.le_refl _⟩, ⟨by (with_reducible repeat (first | refine blk_drewN ?_ _ | refine blk_drew ?_ | refine blk_alloc ?_ _)); exact BK176.out⟩, ⟨by (with_reducible repeat (first | refine blk_drewN ?_ _ | refine blk_drew ?_ | refine blk_alloc ?_ _)); exact BK177.out⟩, ⟨by (with_reducible repeat (first | refine blk_drewN ?_ _ | refine blk_drew ?_ | refine blk_alloc ?_ _)); exact BK184.out⟩, ⟨by repeat (first | (with_reducible first | exact HB.out | apply below_alloc | apply pw_below_drewN | apply below_drew1 | refine below_set ?_ GE176.out | refine below_set ?_ GE177.out | refine below_set ?_ GE184.out) | exact HB.out)⟩⟩
                  · rw [if_neg c31] at H
                    have c31b0 : (t185.toList == a2.toList) = false := beq_eq_false_iff_ne.mpr c31
                    have c31b1 : (t185.toList != a2.toList) = true := bne_iff_ne.mpr c31
                    exact absurd (HTRUE.out.symm.trans (Option.some.inj H).symm) (by decide)
                · rw [if_neg c30] at H
                  have c30b0 : ((bt a2 0) == 45) = false := beq_eq_false_iff_ne.mpr c30
                  have c30b1 : ((bt a2 0) != 45) = true := bne_iff_ne.mpr c30
                  by_cases c37 : (t185.size : Int) < 1
                  · rw [if_pos c37] at H
                    have c37b0 : decide ((t185.size : Int) < 1) = true := decide_eq_true c37
                    have c37b1 : decide (t185.size < 1) = true := decide_eq_true (by omega)
                    clear c37
                    exact absurd (HTRUE.out.symm.trans (Option.some.inj H).symm) (by decide)
                  · rw [if_neg c37] at H
                    have c37b0 : decide ((t185.size : Int) < 1) = false := decide_eq_false c37
                    have c37b1 : decide (t185.size < 1) = false := decide_eq_false (by omega)
                    clear c37
                    have H' := Aside0.mk H
                    clear H
                    have hnb38 := NB184_176.out
                    have hnc38 := NB176_184.out
                    have hnb39 := NB184_177.out
                    have hnc39 := NB177_184.out
                    have hcz40_0 : w12.cell? ⟨gb184, 0, none⟩ = some (.int .i64 0) := (blk_cell BK184.out 0).trans rfl
                    have hcz40_1 : w12.cell? ⟨gb184, 1, none⟩ = some (.int .u64 0) := (blk_cell BK184.out 1).trans rfl
                    have hcz40_2 : w12.cell? ⟨gb184, 2, none⟩ = some (.int .u64 0) := (blk_cell BK184.out 2).trans rfl
                    have hcz40_3 : w12.cell? ⟨gb184, 3, none⟩ = some (.int .i64 0) := (blk_cell BK184.out 3).trans rfl
                    have hfz40_0 := blk_frozen BK184.out 0
                    have hfz40_1 := blk_frozen BK184.out 1
                    have hfz40_2 := blk_frozen BK184.out 2
                    have hfz40_3 := blk_frozen BK184.out 3
                    go_wp2_with (first | ((with_reducible refine gate_callee (f := 8) rfl ?_); refine goesL_ (some 33) rfl rfl Tryd.func8 (by kernel_rfl) rfl #[.agg #[.int .i64 t179, .int .u64 t180, .int .u64 t181, .int .i64 t182]] rfl (by (try simp only [List.map_toArray, List.map_cons, List.map_nil]); first | done | rfl | (simp only [List.length_drop, List.length_take]; rfl)) ?_; (with_reducible refine (pauli_Text.calls t179 t180 t181 t182 t185 t186 _ A17.out).mono ?_); rintro e w41 ⟨rfl, hb⟩; refine ⟨_, rfl, ?_⟩; have n0_ := Aside0.mk (blk_below (g := gb176) (o := .cells #[.int .i64 a0_0, .int .u64 a0_1, .int .u64 a0_2, .int .i64 a0_3] 26 (0, 0)) (by (with_reducible repeat (first | refine blk_drewN ?_ _ | refine blk_drew ?_ | refine blk_alloc ?_ _)); refine blk_far ?_ NB176_184.out _; (with_reducible repeat (first | refine blk_drewN ?_ _ | refine blk_drew ?_ | refine blk_alloc ?_ _)); refine blk_far ?_ NB176_184.out _; (with_reducible repeat (first | refine blk_drewN ?_ _ | refine blk_drew ?_ | refine blk_alloc ?_ _)); refine blk_far ?_ NB176_184.out _; (with_reducible repeat (first | refine blk_drewN ?_ _ | refine blk_drew ?_ | refine blk_alloc ?_ _)); refine blk_far ?_ NB176_184.out _; (with_reducible repeat (first | refine blk_drewN ?_ _ | refine blk_drew ?_ | refine blk_alloc ?_ _)); exact BK176.out) hb); have n1_ := Aside0.mk (blk_below (g := gb177) (o := .cells #[.int .i64 a1_0, .int .u64 a1_1, .int .u64 a1_2, .int .i64 a1_3] 26 (0, 0)) (by (with_reducible repeat (first | refine blk_drewN ?_ _ | refine blk_drew ?_ | refine blk_alloc ?_ _)); refine blk_far ?_ NB177_184.out _; (with_reducible repeat (first | refine blk_drewN ?_ _ | refine blk_drew ?_ | refine blk_alloc ?_ _)); refine blk_far ?_ NB177_184.out _; (with_reducible repeat (first | refine blk_drewN ?_ _ | refine blk_drew ?_ | refine blk_alloc ?_ _)); refine blk_far ?_ NB177_184.out _; (with_reducible repeat (first | refine blk_drewN ?_ _ | refine blk_drew ?_ | refine blk_alloc ?_ _)); refine blk_far ?_ NB177_184.out _; (with_reducible repeat (first | refine blk_drewN ?_ _ | refine blk_drew ?_ | refine blk_alloc ?_ _)); exact BK177.out) hb); have n2_ := Aside0.mk (blk_below (g := gb184) (o := .cells #[.int .i64 t179, .int .u64 t180, .int .u64 t181, .int .i64 t182] 26 (0, 0)) (by (with_reducible repeat (first | refine blk_drewN ?_ _ | refine blk_drew ?_ | refine blk_alloc ?_ _)); refine blk_put (cs := #[.int .i64 t179, .int .u64 t180, .int .u64 t181, .int .i64 0]) ?_ 3 _ rfl; (with_reducible repeat (first | refine blk_drewN ?_ _ | refine blk_drew ?_ | refine blk_alloc ?_ _)); refine blk_put (cs := #[.int .i64 t179, .int .u64 t180, .int .u64 0, .int .i64 0]) ?_ 2 _ rfl; (with_reducible repeat (first | refine blk_drewN ?_ _ | refine blk_drew ?_ | refine blk_alloc ?_ _)); refine blk_put (cs := #[.int .i64 t179, .int .u64 0, .int .u64 0, .int .i64 0]) ?_ 1 _ rfl; (with_reducible repeat (first | refine blk_drewN ?_ _ | refine blk_drew ?_ | refine blk_alloc ?_ _)); refine blk_put (cs := #[.int .i64 0, .int .u64 0, .int .u64 0, .int .i64 0]) ?_ 0 _ rfl; (with_reducible repeat (first | refine blk_drewN ?_ _ | refine blk_drew ?_ | refine blk_alloc ?_ _)); exact BK184.out) hb); have n3_ := Aside0.mk (below_step (by repeat (first | (with_reducible first | exact HB.out | apply below_alloc | apply pw_below_drewN | apply below_drew1 | refine below_set ?_ GE176.out | refine below_set ?_ GE177.out | refine below_set ?_ GE184.out) | exact HB.out)) hb); clear BK176; clear BK177; clear BK184; clear HB; have BK176 := n0_; have BK177 := n1_; have BK184 := n2_; have HB := n3_; clear n0_ n1_ n2_ n3_; (try clear hb); (try clear hb2); (try clear hk); (try clear hi); have p21 : 0 ≤ (0 : Int) := (by omega); have q21 : 0 < a2.size := (by have : (0 : Int) < (a2.size : Int) := of_decide_eq_true (by first | (with_reducible assumption) | assumption); omega); have hx21 : ∀ h : 0 < a2.size, ((a2[0]'h).toNat : Int) = bt a2 0 := bt_at a2 0; clear p21; have qi21 : (0 < (a2.size : Int)) = True := eq_true (of_decide_eq_true (by first | (with_reducible assumption) | assumption)); replace q21 := eq_true q21; have p29 : 0 ≤ (0 : Int) := (by omega); have q29 : 0 < a2.size := (by have : (0 : Int) < (a2.size : Int) := of_decide_eq_true (by first | (with_reducible assumption) | assumption); omega); have hx29 : ∀ h : 0 < a2.size, ((a2[0]'h).toNat : Int) = bt a2 0 := bt_at a2 0; clear p29; have qi29 : (0 < (a2.size : Int)) = True := eq_true (of_decide_eq_true (by first | (with_reducible assumption) | assumption)); replace q29 := eq_true q29))
                    go_meet
                    case rel => exact ⟨_, H', ⟨by first | omega | exact Nat.le_refl _⟩, ⟨by (with_reducible repeat (first | refine blk_drewN ?_ _ | refine blk_drew ?_ | refine blk_alloc ?_ _)); exact BK176.out⟩, ⟨by (with_reducible repeat (first | refine blk_drewN ?_ _ | refine blk_drew ?_ | refine blk_alloc ?_ _)); exact BK177.out⟩, ⟨by (with_reducible repeat (first | refine blk_drewN ?_ _ | refine blk_drew ?_ | refine blk_alloc ?_ _)); exact BK184.out⟩, ⟨by repeat (first | (with_reducible first | exact HB.out | apply below_alloc | apply pw_below_drewN | apply below_drew1 | refine below_set ?_ GE176.out | refine below_set ?_ GE177.out | refine below_set ?_ GE184.out) | exact HB.out)⟩⟩
            · rw [if_neg c20] at H
              exact absurd H (by simp)
          · rw [if_neg c19] at H
            have c19b0 : decide (0 < (a2.size : Int)) = false := decide_eq_false c19
            have c19b1 : decide (0 < a2.size) = false := decide_eq_false (by omega)
            clear c19
            by_cases c42 : (t185.size : Int) < 1
            · rw [if_pos c42] at H
              have c42b0 : decide ((t185.size : Int) < 1) = true := decide_eq_true c42
              have c42b1 : decide (t185.size < 1) = true := decide_eq_true (by omega)
              clear c42
              exact absurd (HTRUE.out.symm.trans (Option.some.inj H).symm) (by decide)
            · rw [if_neg c42] at H
              have c42b0 : decide ((t185.size : Int) < 1) = false := decide_eq_false c42
              have c42b1 : decide (t185.size < 1) = false := decide_eq_false (by omega)
              clear c42
              have H' := Aside0.mk H
              clear H
              have hnb43 := NB184_176.out
              have hnc43 := NB176_184.out
              have hnb44 := NB184_177.out
              have hnc44 := NB177_184.out
              have hcz45_0 : w12.cell? ⟨gb184, 0, none⟩ = some (.int .i64 0) := (blk_cell BK184.out 0).trans rfl
              have hcz45_1 : w12.cell? ⟨gb184, 1, none⟩ = some (.int .u64 0) := (blk_cell BK184.out 1).trans rfl
              have hcz45_2 : w12.cell? ⟨gb184, 2, none⟩ = some (.int .u64 0) := (blk_cell BK184.out 2).trans rfl
              have hcz45_3 : w12.cell? ⟨gb184, 3, none⟩ = some (.int .i64 0) := (blk_cell BK184.out 3).trans rfl
              have hfz45_0 := blk_frozen BK184.out 0
              have hfz45_1 := blk_frozen BK184.out 1
              have hfz45_2 := blk_frozen BK184.out 2
              have hfz45_3 := blk_frozen BK184.out 3
              go_wp2_with (first | ((with_reducible refine gate_callee (f := 8) rfl ?_); refine goesL_ (some 33) rfl rfl Tryd.func8 (by kernel_rfl) rfl #[.agg #[.int .i64 t179, .int .u64 t180, .int .u64 t181, .int .i64 t182]] rfl (by (try simp only [List.map_toArray, List.map_cons, List.map_nil]); first | done | rfl | (simp only [List.length_drop, List.length_take]; rfl)) ?_; (with_reducible refine (pauli_Text.calls t179 t180 t181 t182 t185 t186 _ A17.out).mono ?_); rintro e w46 ⟨rfl, hb⟩; refine ⟨_, rfl, ?_⟩; have n0_ := Aside0.mk (blk_below (g := gb176) (o := .cells #[.int .i64 a0_0, .int .u64 a0_1, .int .u64 a0_2, .int .i64 a0_3] 26 (0, 0)) (by (with_reducible repeat (first | refine blk_drewN ?_ _ | refine blk_drew ?_ | refine blk_alloc ?_ _)); refine blk_far ?_ NB176_184.out _; (with_reducible repeat (first | refine blk_drewN ?_ _ | refine blk_drew ?_ | refine blk_alloc ?_ _)); refine blk_far ?_ NB176_184.out _; (with_reducible repeat (first | refine blk_drewN ?_ _ | refine blk_drew ?_ | refine blk_alloc ?_ _)); refine blk_far ?_ NB176_184.out _; (with_reducible repeat (first | refine blk_drewN ?_ _ | refine blk_drew ?_ | refine blk_alloc ?_ _)); refine blk_far ?_ NB176_184.out _; (with_reducible repeat (first | refine blk_drewN ?_ _ | refine blk_drew ?_ | refine blk_alloc ?_ _)); exact BK176.out) hb); have n1_ := Aside0.mk (blk_below (g := gb177) (o := .cells #[.int .i64 a1_0, .int .u64 a1_1, .int .u64 a1_2, .int .i64 a1_3] 26 (0, 0)) (by (with_reducible repeat (first | refine blk_drewN ?_ _ | refine blk_drew ?_ | refine blk_alloc ?_ _)); refine blk_far ?_ NB177_184.out _; (with_reducible repeat (first | refine blk_drewN ?_ _ | refine blk_drew ?_ | refine blk_alloc ?_ _)); refine blk_far ?_ NB177_184.out _; (with_reducible repeat (first | refine blk_drewN ?_ _ | refine blk_drew ?_ | refine blk_alloc ?_ _)); refine blk_far ?_ NB177_184.out _; (with_reducible repeat (first | refine blk_drewN ?_ _ | refine blk_drew ?_ | refine blk_alloc ?_ _)); refine blk_far ?_ NB177_184.out _; (with_reducible repeat (first | refine blk_drewN ?_ _ | refine blk_drew ?_ | refine blk_alloc ?_ _)); exact BK177.out) hb); have n2_ := Aside0.mk (blk_below (g := gb184) (o := .cells #[.int .i64 t179, .int .u64 t180, .int .u64 t181, .int .i64 t182] 26 (0, 0)) (by (with_reducible repeat (first | refine blk_drewN ?_ _ | refine blk_drew ?_ | refine blk_alloc ?_ _)); refine blk_put (cs := #[.int .i64 t179, .int .u64 t180, .int .u64 t181, .int .i64 0]) ?_ 3 _ rfl; (with_reducible repeat (first | refine blk_drewN ?_ _ | refine blk_drew ?_ | refine blk_alloc ?_ _)); refine blk_put (cs := #[.int .i64 t179, .int .u64 t180, .int .u64 0, .int .i64 0]) ?_ 2 _ rfl; (with_reducible repeat (first | refine blk_drewN ?_ _ | refine blk_drew ?_ | refine blk_alloc ?_ _)); refine blk_put (cs := #[.int .i64 t179, .int .u64 0, .int .u64 0, .int .i64 0]) ?_ 1 _ rfl; (with_reducible repeat (first | refine blk_drewN ?_ _ | refine blk_drew ?_ | refine blk_alloc ?_ _)); refine blk_put (cs := #[.int .i64 0, .int .u64 0, .int .u64 0, .int .i64 0]) ?_ 0 _ rfl; (with_reducible repeat (first | refine blk_drewN ?_ _ | refine blk_drew ?_ | refine blk_alloc ?_ _)); exact BK184.out) hb); have n3_ := Aside0.mk (below_step (by repeat (first | (with_reducible first | exact HB.out | apply below_alloc | apply pw_below_drewN | apply below_drew1 | refine below_set ?_ GE176.out | refine below_set ?_ GE177.out | refine below_set ?_ GE184.out) | exact HB.out)) hb); clear BK176; clear BK177; clear BK184; clear HB; have BK176 := n0_; have BK177 := n1_; have BK184 := n2_; have HB := n3_; clear n0_ n1_ n2_ n3_; (try clear hb); (try clear hb2); (try clear hk); (try clear hi)))
              go_meet
              case rel => exact ⟨_, H', ⟨by first | omega | exact Nat.le_refl _⟩, ⟨by (with_reducible repeat (first | refine blk_drewN ?_ _ | refine blk_drew ?_ | refine blk_alloc ?_ _)); exact BK176.out⟩, ⟨by (with_reducible repeat (first | refine blk_drewN ?_ _ | refine blk_drew ?_ | refine blk_alloc ?_ _)); exact BK177.out⟩, ⟨by (with_reducible repeat (first | refine blk_drewN ?_ _ | refine blk_drew ?_ | refine blk_alloc ?_ _)); exact BK184.out⟩, ⟨by repeat (first | (with_reducible first | exact HB.out | apply below_alloc | apply pw_below_drewN | apply below_drew1 | refine below_set ?_ GE176.out | refine below_set ?_ GE177.out | refine below_set ?_ GE184.out) | exact HB.out)⟩⟩
        · rw [if_neg c18] at H
          have c18b0 : (t186 == 0) = false := beq_eq_false_iff_ne.mpr c18
          have c18b1 : (t186 != 0) = true := bne_iff_ne.mpr c18
          exact absurd (HTRUE.out.symm.trans (Option.some.inj H).symm) (by decide)
      · rw [if_neg c16] at H
        have c16b0 : (t183 == 0) = false := beq_eq_false_iff_ne.mpr c16
        have c16b1 : (t183 != 0) = true := bne_iff_ne.mpr c16
        (first | rw [c16b0] | (simp only [i64_w, i32_w]; rw [c16b0]) | skip)
        by_cases c47 : (!(t179 == 0) || (!(t180 == 0) || (!(t181 == 0) || (!(t182 == 0))))) = true
        · rw [if_pos c47] at H
          have c47b0 : (!(t179 == 0) || (!(t180 == 0) || (!(t181 == 0) || (!(t182 == 0))))) = true := c47
          clear c47
          exact absurd (HTRUE.out.symm.trans (Option.some.inj H).symm) (by decide)
        · rw [if_neg c47] at H
          have c47b0 : (!(t179 == 0) || (!(t180 == 0) || (!(t181 == 0) || (!(t182 == 0))))) = false := by simpa using c47
          clear c47
          have H' := Aside0.mk H
          clear H
          have hnb48 := NB184_176.out
          have hnc48 := NB176_184.out
          have hnb49 := NB184_177.out
          have hnc49 := NB177_184.out
          have hcz50_0 : w12.cell? ⟨gb184, 0, none⟩ = some (.int .i64 0) := (blk_cell BK184.out 0).trans rfl
          have hcz50_1 : w12.cell? ⟨gb184, 1, none⟩ = some (.int .u64 0) := (blk_cell BK184.out 1).trans rfl
          have hcz50_2 : w12.cell? ⟨gb184, 2, none⟩ = some (.int .u64 0) := (blk_cell BK184.out 2).trans rfl
          have hcz50_3 : w12.cell? ⟨gb184, 3, none⟩ = some (.int .i64 0) := (blk_cell BK184.out 3).trans rfl
          have hfz50_0 := blk_frozen BK184.out 0
          have hfz50_1 := blk_frozen BK184.out 1
          have hfz50_2 := blk_frozen BK184.out 2
          have hfz50_3 := blk_frozen BK184.out 3
          go_wp2
          go_meet
          case rel => exact ⟨_, H', ⟨by first | omega | exact Nat.le_refl _⟩, ⟨by (with_reducible repeat (first | refine blk_drewN ?_ _ | refine blk_drew ?_ | refine blk_alloc ?_ _)); refine blk_far ?_ NB176_184.out _; (with_reducible repeat (first | refine blk_drewN ?_ _ | refine blk_drew ?_ | refine blk_alloc ?_ _)); refine blk_far ?_ NB176_184.out _; (with_reducible repeat (first | refine blk_drewN ?_ _ | refine blk_drew ?_ | refine blk_alloc ?_ _)); refine blk_far ?_ NB176_184.out _; (with_reducible repeat (first | refine blk_drewN ?_ _ | refine blk_drew ?_ | refine blk_alloc ?_ _)); refine blk_far ?_ NB176_184.out _; (with_reducible repeat (first | refine blk_drewN ?_ _ | refine blk_drew ?_ | refine blk_alloc ?_ _)); exact BK176.out⟩, ⟨by (with_reducible repeat (first | refine blk_drewN ?_ _ | refine blk_drew ?_ | refine blk_alloc ?_ _)); refine blk_far ?_ NB177_184.out _; (with_reducible repeat (first | refine blk_drewN ?_ _ | refine blk_drew ?_ | refine blk_alloc ?_ _)); refine blk_far ?_ NB177_184.out _; (with_reducible repeat (first | refine blk_drewN ?_ _ | refine blk_drew ?_ | refine blk_alloc ?_ _)); refine blk_far ?_ NB177_184.out _; (with_reducible repeat (first | refine blk_drewN ?_ _ | refine blk_drew ?_ | refine blk_alloc ?_ _)); refine blk_far ?_ NB177_184.out _; (with_reducible repeat (first | refine blk_drewN ?_ _ | refine blk_drew ?_ | refine blk_alloc ?_ _)); exact BK177.out⟩, ⟨by (with_reducible repeat (first | refine blk_drewN ?_ _ | refine blk_drew ?_ | refine blk_alloc ?_ _)); refine blk_put (cs := #[.int .i64 t179, .int .u64 t180, .int .u64 t181, .int .i64 0]) ?_ 3 _ rfl; (with_reducible repeat (first | refine blk_drewN ?_ _ | refine blk_drew ?_ | refine blk_alloc ?_ _)); refine blk_put (cs := #[.int .i64 t179, .int .u64 t180, .int .u64 0, .int .i64 0]) ?_ 2 _ rfl; (with_reducible repeat (first | refine blk_drewN ?_ _ | refine blk_drew ?_ | refine blk_alloc ?_ _)); refine blk_put (cs := #[.int .i64 t179, .int .u64 0, .int .u64 0, .int .i64 0]) ?_ 1 _ rfl; (with_reducible repeat (first | refine blk_drewN ?_ _ | refine blk_drew ?_ | refine blk_alloc ?_ _)); refine blk_put (cs := #[.int .i64 0, .int .u64 0, .int .u64 0, .int .i64 0]) ?_ 0 _ rfl; (with_reducible repeat (first | refine blk_drewN ?_ _ | refine blk_drew ?_ | refine blk_alloc ?_ _)); exact BK184.out⟩, ⟨by repeat (first | (with_reducible first | exact HB.out | apply below_alloc | apply pw_below_drewN | apply below_drew1 | refine below_set ?_ GE176.out | refine below_set ?_ GE177.out | refine below_set ?_ GE184.out) | exact HB.out)⟩⟩
    case rest =>
      clear HC7
      try clear c1
      try clear c2
      try clear p2
      try clear q2
      try clear hx2
      try clear qi2
      try clear c3
      try clear c4
      try clear c5
      try clear c7
      try clear c8
      try clear c13
      try clear c14
      try clear c16
      try clear c16b0
      try clear c16b1
      try clear c18
      try clear c18b0
      try clear c18b1
      try clear c19
      try clear c19b0
      try clear c19b1
      try clear c20
      try clear c20b0
      try clear c20b1
      try clear p21
      try clear q21
      try clear hx21
      try clear qi21
      try clear c22
      try clear c22b0
      try clear c22b1
      try clear c23
      try clear c23b0
      try clear c23b1
      try clear c24
      try clear c24b0
      try clear c24b1
      try clear c25
      try clear c26
      try clear p29
      try clear q29
      try clear hx29
      try clear qi29
      try clear c30
      try clear c30b0
      try clear c30b1
      try clear c31
      try clear c31b0
      try clear c31b1
      try clear c32
      try clear c32b0
      try clear c32b1
      try clear c33
      try clear c34
      try clear c37
      try clear c37b0
      try clear c37b1
      try clear c38
      try clear c39
      try clear c42
      try clear c42b0
      try clear c42b1
      try clear c43
      try clear c44
      try clear c47
      try clear c47b0
      try clear c48
      try clear c49
      try clear hcz15_0
      try clear hcz15_1
      try clear hcz15_2
      try clear hcz15_3
      try clear hcz27_0
      try clear hcz27_1
      try clear hcz27_2
      try clear hcz27_3
      try clear hcz35_0
      try clear hcz35_1
      try clear hcz35_2
      try clear hcz35_3
      try clear hcz40_0
      try clear hcz40_1
      try clear hcz40_2
      try clear hcz40_3
      try clear hcz45_0
      try clear hcz45_1
      try clear hcz45_2
      try clear hcz45_3
      try clear hcz50_0
      try clear hcz50_1
      try clear hcz50_2
      try clear hcz50_3
      try clear hfz15_0
      try clear hfz15_1
      try clear hfz15_2
      try clear hfz15_3
      try clear hfz27_0
      try clear hfz27_1
      try clear hfz27_2
      try clear hfz27_3
      try clear hfz35_0
      try clear hfz35_1
      try clear hfz35_2
      try clear hfz35_3
      try clear hfz40_0
      try clear hfz40_1
      try clear hfz40_2
      try clear hfz40_3
      try clear hfz45_0
      try clear hfz45_1
      try clear hfz45_2
      try clear hfz45_3
      try clear hfz50_0
      try clear hfz50_1
      try clear hfz50_2
      try clear hfz50_3
      try clear p21
      try clear p29
      try clear q21
      try clear q29
      obtain ⟨kq, HA, HJ6, BK176, BK177, BK184, HB⟩ := hcut
      cases kq with
      | zero => exact absurd HA.out (by simp [cubitlaw07_PauliTexts.j0])
      | succ kj6 =>
        have H := HA.out
        clear HA
        simp only [cubitlaw07_PauliTexts.j0] at H
        have HC51 := Aside0.mk H
        clear H
        go_upto_region 10 with (fail)
        go_cut [73] (fun v73 wc => ∃ (kq : Nat) (x73_50 : Bool), v73 = .bool x73_50 ∧ Aside0 (cubitlaw07_PauliTexts.j1 kq x73_50 a0_0 a0_1 a0_2 a0_3 a1_0 a1_1 a1_2 a1_3 = some r) ∧ Aside0 (kq ≤ kj6) ∧ Aside0 (wc.heap[gb176]? = some (.cells #[.int .i64 a0_0, .int .u64 a0_1, .int .u64 a0_2, .int .i64 a0_3] 26 (0, 0))) ∧ Aside0 (wc.heap[gb177]? = some (.cells #[.int .i64 a1_0, .int .u64 a1_1, .int .u64 a1_2, .int .i64 a1_3] 26 (0, 0))) ∧ Aside0 (wc.heap[gb184]? = some (.cells #[.int .i64 t179, .int .u64 t180, .int .u64 t181, .int .i64 t182] 26 (0, 0))) ∧ Aside0 (Below w.heap.size w wc))
        case first =>
          have H := HC51.out
          clear HC51
          replace H := Option.bind_eq_some_iff.mp H
          obtain ⟨t187, A520, H⟩ := H
          replace H : (if t187 = 0 then ((pauli_Check.f a1_0 a1_1 a1_2 a1_3).bind fun t188 => (cubitlaw07_PauliTexts.j1 kj6 (t188 != 0) a0_0 a0_1 a0_2 a0_3 a1_0 a1_1 a1_2 a1_3)) else (cubitlaw07_PauliTexts.j1 kj6 true a0_0 a0_1 a0_2 a0_3 a1_0 a1_1 a1_2 a1_3)) = some r := H
          have A52 := Aside0.mk A520
          clear A520
          by_cases c53 : t187 = 0
          · rw [if_pos c53] at H
            have c53b0 : (t187 == 0) = true := beq_iff_eq.mpr c53
            have c53b1 : (t187 != 0) = false := bne_eq_false_iff_eq.mpr c53
            clear c53
            (first | rw [c53b0] | (simp only [i64_w, i32_w]; rw [c53b0]) | skip)
            replace H := Option.bind_eq_some_iff.mp H
            obtain ⟨t188, A540, H⟩ := H
            replace H : (cubitlaw07_PauliTexts.j1 kj6 (t188 != 0) a0_0 a0_1 a0_2 a0_3 a1_0 a1_1 a1_2 a1_3) = some r := H
            have A54 := Aside0.mk A540
            clear A540
            have H' := Aside0.mk H
            clear H
            have hnb55 := NB176_177.out
            have hnc55 := NB177_176.out
            have hnb56 := NB176_184.out
            have hnc56 := NB184_176.out
            have hcz57_0 : wc.cell? ⟨gb176, 0, none⟩ = some (.int .i64 a0_0) := (blk_cell BK176.out 0).trans rfl
            have hcz57_1 : wc.cell? ⟨gb176, 1, none⟩ = some (.int .u64 a0_1) := (blk_cell BK176.out 1).trans rfl
            have hcz57_2 : wc.cell? ⟨gb176, 2, none⟩ = some (.int .u64 a0_2) := (blk_cell BK176.out 2).trans rfl
            have hcz57_3 : wc.cell? ⟨gb176, 3, none⟩ = some (.int .i64 a0_3) := (blk_cell BK176.out 3).trans rfl
            have hfz57_0 := blk_frozen BK176.out 0
            have hfz57_1 := blk_frozen BK176.out 1
            have hfz57_2 := blk_frozen BK176.out 2
            have hfz57_3 := blk_frozen BK176.out 3
            go_wp2_with (first | ((with_reducible refine gate_callee (f := 9) rfl ?_); refine goesL_ (some 67) rfl rfl Tryd.func9 (by kernel_rfl) rfl #[.agg #[.int .i64 a0_0, .int .u64 a0_1, .int .u64 a0_2, .int .i64 a0_3]] rfl (by (try simp only [List.map_toArray, List.map_cons, List.map_nil]); first | done | rfl | (simp only [List.length_drop, List.length_take]; rfl)) ?_; (with_reducible refine (pauli_Check.calls a0_0 a0_1 a0_2 a0_3 t187 _ A52.out).mono ?_); rintro e w58 ⟨rfl, hb⟩; refine ⟨_, rfl, ?_⟩; have n0_ := Aside0.mk (blk_below (g := gb176) (o := .cells #[.int .i64 a0_0, .int .u64 a0_1, .int .u64 a0_2, .int .i64 a0_3] 26 (0, 0)) (by (with_reducible repeat (first | refine blk_drewN ?_ _ | refine blk_drew ?_ | refine blk_alloc ?_ _)); exact BK176.out) hb); have n1_ := Aside0.mk (blk_below (g := gb177) (o := .cells #[.int .i64 a1_0, .int .u64 a1_1, .int .u64 a1_2, .int .i64 a1_3] 26 (0, 0)) (by (with_reducible repeat (first | refine blk_drewN ?_ _ | refine blk_drew ?_ | refine blk_alloc ?_ _)); exact BK177.out) hb); have n2_ := Aside0.mk (blk_below (g := gb184) (o := .cells #[.int .i64 t179, .int .u64 t180, .int .u64 t181, .int .i64 t182] 26 (0, 0)) (by (with_reducible repeat (first | refine blk_drewN ?_ _ | refine blk_drew ?_ | refine blk_alloc ?_ _)); exact BK184.out) hb); have n3_ := Aside0.mk (below_step (by repeat (first | (with_reducible first | exact HB.out | apply below_alloc | apply pw_below_drewN | apply below_drew1 | refine below_set ?_ GE176.out | refine below_set ?_ GE177.out | refine below_set ?_ GE184.out) | exact HB.out)) hb); clear BK176; clear BK177; clear BK184; clear HB; have BK176 := n0_; have BK177 := n1_; have BK184 := n2_; have HB := n3_; clear n0_ n1_ n2_ n3_; (try clear hb); (try clear hb2); (try clear hk); (try clear hi); have hnb59 := NB177_184.out; have hnc59 := NB184_177.out; have hcz60_0 : w58.cell? ⟨gb177, 0, none⟩ = some (.int .i64 a1_0) := (blk_cell BK177.out 0).trans rfl; have hcz60_1 : w58.cell? ⟨gb177, 1, none⟩ = some (.int .u64 a1_1) := (blk_cell BK177.out 1).trans rfl; have hcz60_2 : w58.cell? ⟨gb177, 2, none⟩ = some (.int .u64 a1_2) := (blk_cell BK177.out 2).trans rfl; have hcz60_3 : w58.cell? ⟨gb177, 3, none⟩ = some (.int .i64 a1_3) := (blk_cell BK177.out 3).trans rfl; have hfz60_0 := blk_frozen BK177.out 0; have hfz60_1 := blk_frozen BK177.out 1; have hfz60_2 := blk_frozen BK177.out 2; have hfz60_3 := blk_frozen BK177.out 3) | (go_at_call 9; (with_reducible refine (pauli_Check.calls a1_0 a1_1 a1_2 a1_3 t188 _ A54.out).mono ?_); rintro e w61 ⟨rfl, hb⟩; have n0_ := Aside0.mk (blk_below (g := gb176) (o := .cells #[.int .i64 a0_0, .int .u64 a0_1, .int .u64 a0_2, .int .i64 a0_3] 26 (0, 0)) (by (with_reducible repeat (first | refine blk_drewN ?_ _ | refine blk_drew ?_ | refine blk_alloc ?_ _)); exact BK176.out) hb); have n1_ := Aside0.mk (blk_below (g := gb177) (o := .cells #[.int .i64 a1_0, .int .u64 a1_1, .int .u64 a1_2, .int .i64 a1_3] 26 (0, 0)) (by (with_reducible repeat (first | refine blk_drewN ?_ _ | refine blk_drew ?_ | refine blk_alloc ?_ _)); exact BK177.out) hb); have n2_ := Aside0.mk (blk_below (g := gb184) (o := .cells #[.int .i64 t179, .int .u64 t180, .int .u64 t181, .int .i64 t182] 26 (0, 0)) (by (with_reducible repeat (first | refine blk_drewN ?_ _ | refine blk_drew ?_ | refine blk_alloc ?_ _)); exact BK184.out) hb); have n3_ := Aside0.mk (below_step (by repeat (first | (with_reducible first | exact HB.out | apply below_alloc | apply pw_below_drewN | apply below_drew1 | refine below_set ?_ GE176.out | refine below_set ?_ GE177.out | refine below_set ?_ GE184.out) | exact HB.out)) hb); clear BK176; clear BK177; clear BK184; clear HB; have BK176 := n0_; have BK177 := n1_; have BK184 := n2_; have HB := n3_; clear n0_ n1_ n2_ n3_; (try clear hb); (try clear hb2); (try clear hk); (try clear hi)))
            go_meet
            case rel => exact ⟨_, ((t188 != 0)), (by first | rfl | (simp; done) | (simp [*]; done)), H', ⟨by have := HJ6.out; first | omega | exact Nat.le_refl _⟩, ⟨by (with_reducible repeat (first | refine blk_drewN ?_ _ | refine blk_drew ?_ | refine blk_alloc ?_ _)); exact BK176.out⟩, ⟨by (with_reducible repeat (first | refine blk_drewN ?_ _ | refine blk_drew ?_ | refine blk_alloc ?_ _)); exact BK177.out⟩, ⟨by (with_reducible repeat (first | refine blk_drewN ?_ _ | refine blk_drew ?_ | refine blk_alloc ?_ _)); exact BK184.out⟩, ⟨by repeat (first | (with_reducible first | exact HB.out | apply below_alloc | apply pw_below_drewN | apply below_drew1 | refine below_set ?_ GE176.out | refine below_set ?_ GE177.out | refine below_set ?_ GE184.out) | exact HB.out)⟩⟩
          · rw [if_neg c53] at H
            have c53b0 : (t187 == 0) = false := beq_eq_false_iff_ne.mpr c53
            have c53b1 : (t187 != 0) = true := bne_iff_ne.mpr c53
            (first | rw [c53b0] | (simp only [i64_w, i32_w]; rw [c53b0]) | skip)
            have H' := Aside0.mk H
            clear H
            have hnb62 := NB176_177.out
            have hnc62 := NB177_176.out
            have hnb63 := NB176_184.out
            have hnc63 := NB184_176.out
            have hcz64_0 : wc.cell? ⟨gb176, 0, none⟩ = some (.int .i64 a0_0) := (blk_cell BK176.out 0).trans rfl
            have hcz64_1 : wc.cell? ⟨gb176, 1, none⟩ = some (.int .u64 a0_1) := (blk_cell BK176.out 1).trans rfl
            have hcz64_2 : wc.cell? ⟨gb176, 2, none⟩ = some (.int .u64 a0_2) := (blk_cell BK176.out 2).trans rfl
            have hcz64_3 : wc.cell? ⟨gb176, 3, none⟩ = some (.int .i64 a0_3) := (blk_cell BK176.out 3).trans rfl
            have hfz64_0 := blk_frozen BK176.out 0
            have hfz64_1 := blk_frozen BK176.out 1
            have hfz64_2 := blk_frozen BK176.out 2
            have hfz64_3 := blk_frozen BK176.out 3
            go_wp2_with (first | ((with_reducible refine gate_callee (f := 9) rfl ?_); refine goesL_ (some 67) rfl rfl Tryd.func9 (by kernel_rfl) rfl #[.agg #[.int .i64 a0_0, .int .u64 a0_1, .int .u64 a0_2, .int .i64 a0_3]] rfl (by (try simp only [List.map_toArray, List.map_cons, List.map_nil]); first | done | rfl | (simp only [List.length_drop, List.length_take]; rfl)) ?_; (with_reducible refine (pauli_Check.calls a0_0 a0_1 a0_2 a0_3 t187 _ A52.out).mono ?_); rintro e w65 ⟨rfl, hb⟩; refine ⟨_, rfl, ?_⟩; have n0_ := Aside0.mk (blk_below (g := gb176) (o := .cells #[.int .i64 a0_0, .int .u64 a0_1, .int .u64 a0_2, .int .i64 a0_3] 26 (0, 0)) (by (with_reducible repeat (first | refine blk_drewN ?_ _ | refine blk_drew ?_ | refine blk_alloc ?_ _)); exact BK176.out) hb); have n1_ := Aside0.mk (blk_below (g := gb177) (o := .cells #[.int .i64 a1_0, .int .u64 a1_1, .int .u64 a1_2, .int .i64 a1_3] 26 (0, 0)) (by (with_reducible repeat (first | refine blk_drewN ?_ _ | refine blk_drew ?_ | refine blk_alloc ?_ _)); exact BK177.out) hb); have n2_ := Aside0.mk (blk_below (g := gb184) (o := .cells #[.int .i64 t179, .int .u64 t180, .int .u64 t181, .int .i64 t182] 26 (0, 0)) (by (with_reducible repeat (first | refine blk_drewN ?_ _ | refine blk_drew ?_ | refine blk_alloc ?_ _)); exact BK184.out) hb); have n3_ := Aside0.mk (below_step (by repeat (first | (with_reducible first | exact HB.out | apply below_alloc | apply pw_below_drewN | apply below_drew1 | refine below_set ?_ GE176.out | refine below_set ?_ GE177.out | refine below_set ?_ GE184.out) | exact HB.out)) hb); clear BK176; clear BK177; clear BK184; clear HB; have BK176 := n0_; have BK177 := n1_; have BK184 := n2_; have HB := n3_; clear n0_ n1_ n2_ n3_; (try clear hb); (try clear hb2); (try clear hk); (try clear hi)))
            go_meet
            case rel => exact ⟨_, (true), (by first | rfl | (simp; done) | (simp [*]; done)), H', ⟨by have := HJ6.out; first | omega | exact Nat.le_refl _⟩, ⟨by (with_reducible repeat (first | refine blk_drewN ?_ _ | refine blk_drew ?_ | refine blk_alloc ?_ _)); exact BK176.out⟩, ⟨by (with_reducible repeat (first | refine blk_drewN ?_ _ | refine blk_drew ?_ | refine blk_alloc ?_ _)); exact BK177.out⟩, ⟨by (with_reducible repeat (first | refine blk_drewN ?_ _ | refine blk_drew ?_ | refine blk_alloc ?_ _)); exact BK184.out⟩, ⟨by repeat (first | (with_reducible first | exact HB.out | apply below_alloc | apply pw_below_drewN | apply below_drew1 | refine below_set ?_ GE176.out | refine below_set ?_ GE177.out | refine below_set ?_ GE184.out) | exact HB.out)⟩⟩
        case rest =>
          clear HC51
          try clear c1
          try clear c2
          try clear p2
          try clear q2
          try clear hx2
          try clear qi2
          try clear c3
          try clear c4
          try clear c5
          try clear c6
          try clear c7
          try clear c8
          try clear c9
          try clear c13
          try clear c14
          try clear c16
          try clear c16b0
          try clear c16b1
          try clear c18
          try clear c18b0
          try clear c18b1
          try clear c19
          try clear c19b0
          try clear c19b1
          try clear c20
          try clear c20b0
          try clear c20b1
          try clear p21
          try clear q21
          try clear hx21
          try clear qi21
          try clear c22
          try clear c22b0
          try clear c22b1
          try clear c23
          try clear c23b0
          try clear c23b1
          try clear c24
          try clear c24b0
          try clear c24b1
          try clear c25
          try clear c26
          try clear p29
          try clear q29
          try clear hx29
          try clear qi29
          try clear c30
          try clear c30b0
          try clear c30b1
          try clear c31
          try clear c31b0
          try clear c31b1
          try clear c32
          try clear c32b0
          try clear c32b1
          try clear c33
          try clear c34
          try clear c37
          try clear c37b0
          try clear c37b1
          try clear c38
          try clear c39
          try clear c42
          try clear c42b0
          try clear c42b1
          try clear c43
          try clear c44
          try clear c47
          try clear c47b0
          try clear c48
          try clear c49
          try clear c53
          try clear c53b0
          try clear c53b1
          try clear c55
          try clear c56
          try clear c59
          try clear c62
          try clear c63
          try clear hcz15_0
          try clear hcz15_1
          try clear hcz15_2
          try clear hcz15_3
          try clear hcz27_0
          try clear hcz27_1
          try clear hcz27_2
          try clear hcz27_3
          try clear hcz35_0
          try clear hcz35_1
          try clear hcz35_2
          try clear hcz35_3
          try clear hcz40_0
          try clear hcz40_1
          try clear hcz40_2
          try clear hcz40_3
          try clear hcz45_0
          try clear hcz45_1
          try clear hcz45_2
          try clear hcz45_3
          try clear hcz50_0
          try clear hcz50_1
          try clear hcz50_2
          try clear hcz50_3
          try clear hcz57_0
          try clear hcz57_1
          try clear hcz57_2
          try clear hcz57_3
          try clear hcz60_0
          try clear hcz60_1
          try clear hcz60_2
          try clear hcz60_3
          try clear hcz64_0
          try clear hcz64_1
          try clear hcz64_2
          try clear hcz64_3
          try clear hfz15_0
          try clear hfz15_1
          try clear hfz15_2
          try clear hfz15_3
          try clear hfz27_0
          try clear hfz27_1
          try clear hfz27_2
          try clear hfz27_3
          try clear hfz35_0
          try clear hfz35_1
          try clear hfz35_2
          try clear hfz35_3
          try clear hfz40_0
          try clear hfz40_1
          try clear hfz40_2
          try clear hfz40_3
          try clear hfz45_0
          try clear hfz45_1
          try clear hfz45_2
          try clear hfz45_3
          try clear hfz50_0
          try clear hfz50_1
          try clear hfz50_2
          try clear hfz50_3
          try clear hfz57_0
          try clear hfz57_1
          try clear hfz57_2
          try clear hfz57_3
          try clear hfz60_0
          try clear hfz60_1
          try clear hfz60_2
          try clear hfz60_3
          try clear hfz64_0
          try clear hfz64_1
          try clear hfz64_2
          try clear hfz64_3
          try clear p2
          try clear p21
          try clear p29
          try clear q2
          try clear q21
          try clear q29
          obtain ⟨kq, x73_50, rfl, HA, HJ50, BK176, BK177, BK184, HB⟩ := hcut
          cases kq with
          | zero => exact absurd HA.out (by simp [cubitlaw07_PauliTexts.j1])
          | succ kj50 =>
            have H := HA.out
            clear HA
            simp only [cubitlaw07_PauliTexts.j1] at H
            by_cases c66 : x73_50 = true
            · subst c66
              have H1 : (some true) = some r := by rw [if_pos rfl] at H; exact H
              clear H
              have H := H1
              clear H1
              obtain rfl := Option.some.inj H
              go_wp2
              go_ret
              exact ⟨by first | rfl | (simp [errW_none, errW_some] <;> rfl) | (simp [*, errW_none, errW_some] <;> rfl), by repeat (first | (with_reducible first | exact HB.out | apply below_alloc | apply pw_below_drewN | apply below_drew1 | refine below_set ?_ GE176.out | refine below_set ?_ GE177.out | refine below_set ?_ GE184.out) | exact HB.out)⟩
            · replace c66 := Bool.eq_false_iff.mpr c66
              subst c66
              have H1 : ((pauli_Text.f a0_0 a0_1 a0_2 a0_3).bind fun bt189 => ((pauli_Parse.f bt189.1).bind fun bt191 => (if bt189.2 = 0 then (if bt191.2.2.2.2 = 0 then (cubitlaw07_PauliTexts.j2 kj50 (!(bt191.1 == a0_0) || (!(bt191.2.1 == a0_1) || (!(bt191.2.2.1 == a0_2) || (!(bt191.2.2.2.1 == a0_3))))) a0_0 a0_1 a0_2 a0_3 a1_0 a1_1 a1_2 a1_3) else (cubitlaw07_PauliTexts.j2 kj50 true a0_0 a0_1 a0_2 a0_3 a1_0 a1_1 a1_2 a1_3)) else (cubitlaw07_PauliTexts.j2 kj50 true a0_0 a0_1 a0_2 a0_3 a1_0 a1_1 a1_2 a1_3)))) = some r := by rw [if_neg (show ¬ (false = true) by decide)] at H; exact H
              clear H
              have H := H1
              clear H1
              replace H := Option.bind_eq_some_iff.mp H
              obtain ⟨⟨t189, t190⟩, A670, H⟩ := H
              replace H : ((pauli_Parse.f t189).bind fun bt191 => (if t190 = 0 then (if bt191.2.2.2.2 = 0 then (cubitlaw07_PauliTexts.j2 kj50 (!(bt191.1 == a0_0) || (!(bt191.2.1 == a0_1) || (!(bt191.2.2.1 == a0_2) || (!(bt191.2.2.2.1 == a0_3))))) a0_0 a0_1 a0_2 a0_3 a1_0 a1_1 a1_2 a1_3) else (cubitlaw07_PauliTexts.j2 kj50 true a0_0 a0_1 a0_2 a0_3 a1_0 a1_1 a1_2 a1_3)) else (cubitlaw07_PauliTexts.j2 kj50 true a0_0 a0_1 a0_2 a0_3 a1_0 a1_1 a1_2 a1_3))) = some r := H
              have A67 := Aside0.mk A670
              clear A670
              replace H := Option.bind_eq_some_iff.mp H
              obtain ⟨⟨t191, t192, t193, t194, t195⟩, A680, H⟩ := H
              replace H : (if t190 = 0 then (if t195 = 0 then (cubitlaw07_PauliTexts.j2 kj50 (!(t191 == a0_0) || (!(t192 == a0_1) || (!(t193 == a0_2) || (!(t194 == a0_3))))) a0_0 a0_1 a0_2 a0_3 a1_0 a1_1 a1_2 a1_3) else (cubitlaw07_PauliTexts.j2 kj50 true a0_0 a0_1 a0_2 a0_3 a1_0 a1_1 a1_2 a1_3)) else (cubitlaw07_PauliTexts.j2 kj50 true a0_0 a0_1 a0_2 a0_3 a1_0 a1_1 a1_2 a1_3)) = some r := H
              have A68 := Aside0.mk A680
              clear A680
              have HC69 := Aside0.mk H
              clear H
              have hnb70 := NB176_177.out
              have hnc70 := NB177_176.out
              have hnb71 := NB176_184.out
              have hnc71 := NB184_176.out
              have hcz72_0 : wc.cell? ⟨gb176, 0, none⟩ = some (.int .i64 a0_0) := (blk_cell BK176.out 0).trans rfl
              have hcz72_1 : wc.cell? ⟨gb176, 1, none⟩ = some (.int .u64 a0_1) := (blk_cell BK176.out 1).trans rfl
              have hcz72_2 : wc.cell? ⟨gb176, 2, none⟩ = some (.int .u64 a0_2) := (blk_cell BK176.out 2).trans rfl
              have hcz72_3 : wc.cell? ⟨gb176, 3, none⟩ = some (.int .i64 a0_3) := (blk_cell BK176.out 3).trans rfl
              have hfz72_0 := blk_frozen BK176.out 0
              have hfz72_1 := blk_frozen BK176.out 1
              have hfz72_2 := blk_frozen BK176.out 2
              have hfz72_3 := blk_frozen BK176.out 3
              go_upto_region 14 with (first | ((with_reducible refine gate_callee (f := 8) rfl ?_); refine goesL_ (some 76) rfl rfl Tryd.func8 (by kernel_rfl) rfl #[.agg #[.int .i64 a0_0, .int .u64 a0_1, .int .u64 a0_2, .int .i64 a0_3]] rfl (by (try simp only [List.map_toArray, List.map_cons, List.map_nil]); first | done | rfl | (simp only [List.length_drop, List.length_take]; rfl)) ?_; (with_reducible refine (pauli_Text.calls a0_0 a0_1 a0_2 a0_3 t189 t190 _ A67.out).mono ?_); rintro e w73 ⟨rfl, hb⟩; refine ⟨_, rfl, ?_⟩; have n0_ := Aside0.mk (blk_below (g := gb176) (o := .cells #[.int .i64 a0_0, .int .u64 a0_1, .int .u64 a0_2, .int .i64 a0_3] 26 (0, 0)) (by (with_reducible repeat (first | refine blk_drewN ?_ _ | refine blk_drew ?_ | refine blk_alloc ?_ _)); exact BK176.out) hb); have n1_ := Aside0.mk (blk_below (g := gb177) (o := .cells #[.int .i64 a1_0, .int .u64 a1_1, .int .u64 a1_2, .int .i64 a1_3] 26 (0, 0)) (by (with_reducible repeat (first | refine blk_drewN ?_ _ | refine blk_drew ?_ | refine blk_alloc ?_ _)); exact BK177.out) hb); have n2_ := Aside0.mk (blk_below (g := gb184) (o := .cells #[.int .i64 t179, .int .u64 t180, .int .u64 t181, .int .i64 t182] 26 (0, 0)) (by (with_reducible repeat (first | refine blk_drewN ?_ _ | refine blk_drew ?_ | refine blk_alloc ?_ _)); exact BK184.out) hb); have n3_ := Aside0.mk (below_step (by repeat (first | (with_reducible first | exact HB.out | apply below_alloc | apply pw_below_drewN | apply below_drew1 | refine below_set ?_ GE176.out | refine below_set ?_ GE177.out | refine below_set ?_ GE184.out) | exact HB.out)) hb); clear BK176; clear BK177; clear BK184; clear HB; have BK176 := n0_; have BK177 := n1_; have BK184 := n2_; have HB := n3_; clear n0_ n1_ n2_ n3_; (try clear hb); (try clear hb2); (try clear hk); (try clear hi)) | ((with_reducible refine gate_callee (f := 7) rfl ?_); refine goesL_ (some 81) rfl rfl Tryd.func7 (by kernel_rfl) rfl #[.string t189] rfl (by (try simp only [List.map_toArray, List.map_cons, List.map_nil]); first | done | rfl | (simp only [List.length_drop, List.length_take]; rfl)) ?_; (with_reducible refine (pauli_Parse.calls t189 t191 t192 t193 t194 t195 _ A68.out).mono ?_); rintro e w74 ⟨rfl, hb⟩; refine ⟨_, rfl, ?_⟩; have n0_ := Aside0.mk (blk_below (g := gb176) (o := .cells #[.int .i64 a0_0, .int .u64 a0_1, .int .u64 a0_2, .int .i64 a0_3] 26 (0, 0)) (by (with_reducible repeat (first | refine blk_drewN ?_ _ | refine blk_drew ?_ | refine blk_alloc ?_ _)); exact BK176.out) hb); have n1_ := Aside0.mk (blk_below (g := gb177) (o := .cells #[.int .i64 a1_0, .int .u64 a1_1, .int .u64 a1_2, .int .i64 a1_3] 26 (0, 0)) (by (with_reducible repeat (first | refine blk_drewN ?_ _ | refine blk_drew ?_ | refine blk_alloc ?_ _)); exact BK177.out) hb); have n2_ := Aside0.mk (blk_below (g := gb184) (o := .cells #[.int .i64 t179, .int .u64 t180, .int .u64 t181, .int .i64 t182] 26 (0, 0)) (by (with_reducible repeat (first | refine blk_drewN ?_ _ | refine blk_drew ?_ | refine blk_alloc ?_ _)); exact BK184.out) hb); have n3_ := Aside0.mk (below_step (by repeat (first | (with_reducible first | exact HB.out | apply below_alloc | apply pw_below_drewN | apply below_drew1 | refine below_set ?_ GE176.out | refine below_set ?_ GE177.out | refine below_set ?_ GE184.out) | exact HB.out)) hb); clear BK176; clear BK177; clear BK184; clear HB; have BK176 := n0_; have BK177 := n1_; have BK184 := n2_; have HB := n3_; clear n0_ n1_ n2_ n3_; (try clear hb); (try clear hb2); (try clear hk); (try clear hi)) | ((with_reducible refine gate_dst (N := 12) rfl ?_); (try (refine gate_guard (by rfl) ?_; dsimp only)); refine box_event ?hg (N := 12) ?hd (cs := #[.int .i64 0, .int .u64 0, .int .u64 0, .int .i64 0]) (t := 26) ?hr ?_; (case hd => rfl); (case hg => rfl); (case hr => first | (go_simp; done) | (go_simp; rfl)); intro gb196 hg w75 hbox hb; have n0_ := Aside0.mk (blk_below (g := gb176) (o := .cells #[.int .i64 a0_0, .int .u64 a0_1, .int .u64 a0_2, .int .i64 a0_3] 26 (0, 0)) (by (with_reducible repeat (first | refine blk_drewN ?_ _ | refine blk_drew ?_ | refine blk_alloc ?_ _)); exact BK176.out) hb); have n1_ := Aside0.mk (blk_below (g := gb177) (o := .cells #[.int .i64 a1_0, .int .u64 a1_1, .int .u64 a1_2, .int .i64 a1_3] 26 (0, 0)) (by (with_reducible repeat (first | refine blk_drewN ?_ _ | refine blk_drew ?_ | refine blk_alloc ?_ _)); exact BK177.out) hb); have n2_ := Aside0.mk (blk_below (g := gb184) (o := .cells #[.int .i64 t179, .int .u64 t180, .int .u64 t181, .int .i64 t182] 26 (0, 0)) (by (with_reducible repeat (first | refine blk_drewN ?_ _ | refine blk_drew ?_ | refine blk_alloc ?_ _)); exact BK184.out) hb); have n3_ := Aside0.mk (below_step (by repeat (first | (with_reducible first | exact HB.out | apply below_alloc | apply pw_below_drewN | apply below_drew1 | refine below_set ?_ GE176.out | refine below_set ?_ GE177.out | refine below_set ?_ GE184.out) | exact HB.out)) hb); have n4_ := Aside0.mk (hbox); have n5_ := Aside0.mk ((by rw [hg]; exact (below_size (by repeat (first | (with_reducible first | exact HB.out | apply below_alloc | apply pw_below_drewN | apply below_drew1 | refine below_set ?_ GE176.out | refine below_set ?_ GE177.out | refine below_set ?_ GE184.out) | exact HB.out))) : w.heap.size ≤ gb196)); have n6_ := Aside0.mk ((by rw [hg]; exact (below_size (by repeat (first | (with_reducible first | exact HB.out | apply below_alloc | apply pw_below_drewN | apply below_drew1 | refine below_set ?_ GE176.out | refine below_set ?_ GE177.out | refine below_set ?_ GE184.out) | exact HB.out))) : w.heap.size ≤ gb196)); have n7_ := Aside0.mk ((by rw [hg]; exact Nat.ne_of_lt (blk_lt (g := gb176) (o := .cells #[.int .i64 a0_0, .int .u64 a0_1, .int .u64 a0_2, .int .i64 a0_3] 26 (0, 0)) (by (with_reducible repeat (first | refine blk_drewN ?_ _ | refine blk_drew ?_ | refine blk_alloc ?_ _)); exact BK176.out)) : gb176 ≠ gb196)); have n8_ := Aside0.mk ((by rw [hg]; exact Nat.ne_of_gt (blk_lt (g := gb176) (o := .cells #[.int .i64 a0_0, .int .u64 a0_1, .int .u64 a0_2, .int .i64 a0_3] 26 (0, 0)) (by (with_reducible repeat (first | refine blk_drewN ?_ _ | refine blk_drew ?_ | refine blk_alloc ?_ _)); exact BK176.out)) : gb196 ≠ gb176)); have n9_ := Aside0.mk ((by rw [hg]; exact Nat.ne_of_lt (blk_lt (g := gb177) (o := .cells #[.int .i64 a1_0, .int .u64 a1_1, .int .u64 a1_2, .int .i64 a1_3] 26 (0, 0)) (by (with_reducible repeat (first | refine blk_drewN ?_ _ | refine blk_drew ?_ | refine blk_alloc ?_ _)); exact BK177.out)) : gb177 ≠ gb196)); have n10_ := Aside0.mk ((by rw [hg]; exact Nat.ne_of_gt (blk_lt (g := gb177) (o := .cells #[.int .i64 a1_0, .int .u64 a1_1, .int .u64 a1_2, .int .i64 a1_3] 26 (0, 0)) (by (with_reducible repeat (first | refine blk_drewN ?_ _ | refine blk_drew ?_ | refine blk_alloc ?_ _)); exact BK177.out)) : gb196 ≠ gb177)); have n11_ := Aside0.mk ((by rw [hg]; exact Nat.ne_of_lt (blk_lt (g := gb184) (o := .cells #[.int .i64 t179, .int .u64 t180, .int .u64 t181, .int .i64 t182] 26 (0, 0)) (by (with_reducible repeat (first | refine blk_drewN ?_ _ | refine blk_drew ?_ | refine blk_alloc ?_ _)); exact BK184.out)) : gb184 ≠ gb196)); have n12_ := Aside0.mk ((by rw [hg]; exact Nat.ne_of_gt (blk_lt (g := gb184) (o := .cells #[.int .i64 t179, .int .u64 t180, .int .u64 t181, .int .i64 t182] 26 (0, 0)) (by (with_reducible repeat (first | refine blk_drewN ?_ _ | refine blk_drew ?_ | refine blk_alloc ?_ _)); exact BK184.out)) : gb196 ≠ gb184)); clear BK176; clear BK177; clear BK184; clear HB; have BK176 := n0_; have BK177 := n1_; have BK184 := n2_; have HB := n3_; have BK196 := n4_; have GW196 := n5_; have GE196 := n6_; have NB176_196 := n7_; have NB196_176 := n8_; have NB177_196 := n9_; have NB196_177 := n10_; have NB184_196 := n11_; have NB196_184 := n12_; clear n0_ n1_ n2_ n3_ n4_ n5_ n6_ n7_ n8_ n9_ n10_ n11_ n12_; clear hb hbox hg; have hnb76 := NB196_176.out; have hnc76 := NB176_196.out; have hnb77 := NB196_177.out; have hnc77 := NB177_196.out; have hnb78 := NB196_184.out; have hnc78 := NB184_196.out; have hcz79_0 : w75.cell? ⟨gb196, 0, none⟩ = some (.int .i64 0) := (blk_cell BK196.out 0).trans rfl; have hcz79_1 : w75.cell? ⟨gb196, 1, none⟩ = some (.int .u64 0) := (blk_cell BK196.out 1).trans rfl; have hcz79_2 : w75.cell? ⟨gb196, 2, none⟩ = some (.int .u64 0) := (blk_cell BK196.out 2).trans rfl; have hcz79_3 : w75.cell? ⟨gb196, 3, none⟩ = some (.int .i64 0) := (blk_cell BK196.out 3).trans rfl; have hfz79_0 := blk_frozen BK196.out 0; have hfz79_1 := blk_frozen BK196.out 1; have hfz79_2 := blk_frozen BK196.out 2; have hfz79_3 := blk_frozen BK196.out 3))
              (try simp only [Act.put, List.setIfInBounds_toArray, List.set_cons_zero, List.set_cons_succ])
              go_cut [94] (fun v94 wc => ∃ (kq : Nat) (x94_68 : Bool), v94 = .bool x94_68 ∧ Aside0 (cubitlaw07_PauliTexts.j2 kq x94_68 a0_0 a0_1 a0_2 a0_3 a1_0 a1_1 a1_2 a1_3 = some r) ∧ Aside0 (kq ≤ kj50) ∧ Aside0 (wc.heap[gb176]? = some (.cells #[.int .i64 a0_0, .int .u64 a0_1, .int .u64 a0_2, .int .i64 a0_3] 26 (0, 0))) ∧ Aside0 (wc.heap[gb177]? = some (.cells #[.int .i64 a1_0, .int .u64 a1_1, .int .u64 a1_2, .int .i64 a1_3] 26 (0, 0))) ∧ Aside0 (wc.heap[gb184]? = some (.cells #[.int .i64 t179, .int .u64 t180, .int .u64 t181, .int .i64 t182] 26 (0, 0))) ∧ Aside0 (wc.heap[gb196]? = some (.cells #[.int .i64 t191, .int .u64 t192, .int .u64 t193, .int .i64 t194] 26 (0, 0))) ∧ Aside0 (Below w.heap.size w wc))
              case first =>
                have H := HC69.out
                clear HC69
                by_cases c80 : t190 = 0
                · rw [if_pos c80] at H
                  have c80b0 : (t190 == 0) = true := beq_iff_eq.mpr c80
                  have c80b1 : (t190 != 0) = false := bne_eq_false_iff_eq.mpr c80
                  clear c80
                  (first | rw [c80b0] | (simp only [i64_w, i32_w]; rw [c80b0]) | skip)
                  by_cases c81 : t195 = 0
                  · rw [if_pos c81] at H
                    have c81b0 : (t195 == 0) = true := beq_iff_eq.mpr c81
                    have c81b1 : (t195 != 0) = false := bne_eq_false_iff_eq.mpr c81
                    clear c81
                    have H' := Aside0.mk H
                    clear H
                    have hnb82 := NB196_176.out
                    have hnc82 := NB176_196.out
                    have hnb83 := NB196_177.out
                    have hnc83 := NB177_196.out
                    have hnb84 := NB196_184.out
                    have hnc84 := NB184_196.out
                    have hcz85_0 : w75.cell? ⟨gb196, 0, none⟩ = some (.int .i64 0) := (blk_cell BK196.out 0).trans rfl
                    have hcz85_1 : w75.cell? ⟨gb196, 1, none⟩ = some (.int .u64 0) := (blk_cell BK196.out 1).trans rfl
                    have hcz85_2 : w75.cell? ⟨gb196, 2, none⟩ = some (.int .u64 0) := (blk_cell BK196.out 2).trans rfl
                    have hcz85_3 : w75.cell? ⟨gb196, 3, none⟩ = some (.int .i64 0) := (blk_cell BK196.out 3).trans rfl
                    have hfz85_0 := blk_frozen BK196.out 0
                    have hfz85_1 := blk_frozen BK196.out 1
                    have hfz85_2 := blk_frozen BK196.out 2
                    have hfz85_3 := blk_frozen BK196.out 3
                    have hnb86 := NB176_177.out
                    have hnc86 := NB177_176.out
                    have hnb87 := NB176_184.out
                    have hnc87 := NB184_176.out
                    have hcz88_0 : w75.cell? ⟨gb176, 0, none⟩ = some (.int .i64 a0_0) := (blk_cell BK176.out 0).trans rfl
                    have hcz88_1 : w75.cell? ⟨gb176, 1, none⟩ = some (.int .u64 a0_1) := (blk_cell BK176.out 1).trans rfl
                    have hcz88_2 : w75.cell? ⟨gb176, 2, none⟩ = some (.int .u64 a0_2) := (blk_cell BK176.out 2).trans rfl
                    have hcz88_3 : w75.cell? ⟨gb176, 3, none⟩ = some (.int .i64 a0_3) := (blk_cell BK176.out 3).trans rfl
                    have hfz88_0 := blk_frozen BK176.out 0
                    have hfz88_1 := blk_frozen BK176.out 1
                    have hfz88_2 := blk_frozen BK176.out 2
                    have hfz88_3 := blk_frozen BK176.out 3
                    go_wp2
                    go_meet
                    case rel => exact ⟨_, ((!(t191 == a0_0) || (!(t192 == a0_1) || (!(t193 == a0_2) || (!(t194 == a0_3)))))), (by first | rfl | (simp; done) | (simp [*]; done)), H', ⟨by have := HJ6.out; have := HJ50.out; first | omega | exact Nat.le_refl _⟩, ⟨by (with_reducible repeat (first | refine blk_drewN ?_ _ | refine blk_drew ?_ | refine blk_alloc ?_ _)); refine blk_far ?_ NB176_196.out _; (with_reducible repeat (first | refine blk_drewN ?_ _ | refine blk_drew ?_ | refine blk_alloc ?_ _)); refine blk_far ?_ NB176_196.out _; (with_reducible repeat (first | refine blk_drewN ?_ _ | refine blk_drew ?_ | refine blk_alloc ?_ _)); refine blk_far ?_ NB176_196.out _; (with_reducible repeat (first | refine blk_drewN ?_ _ | refine blk_drew ?_ | refine blk_alloc ?_ _)); refine blk_far ?_ NB176_196.out _; (with_reducible repeat (first | refine blk_drewN ?_ _ | refine blk_drew ?_ | refine blk_alloc ?_ _)); exact BK176.out⟩, ⟨by (with_reducible repeat (first | refine blk_drewN ?_ _ | refine blk_drew ?_ | refine blk_alloc ?_ _)); refine blk_far ?_ NB177_196.out _; (with_reducible repeat (first | refine blk_drewN ?_ _ | refine blk_drew ?_ | refine blk_alloc ?_ _)); refine blk_far ?_ NB177_196.out _; (with_reducible repeat (first | refine blk_drewN ?_ _ | refine blk_drew ?_ | refine blk_alloc ?_ _)); refine blk_far ?_ NB177_196.out _; (with_reducible repeat (first | refine blk_drewN ?_ _ | refine blk_drew ?_ | refine blk_alloc ?_ _)); refine blk_far ?_ NB177_196.out _; (with_reducible repeat (first | refine blk_drewN ?_ _ | refine blk_drew ?_ | refine blk_alloc ?_ _)); exact BK177.out⟩, ⟨by (with_reducible repeat (first | refine blk_drewN ?_ _ | refine blk_drew ?_ | refine blk_alloc ?_ _)); refine blk_far ?_ NB184_196.out _; (with_reducible repeat (first | refine blk_drewN ?_ _ | refine blk_drew ?_ | refine blk_alloc ?_ _)); refine blk_far ?_ NB184_196.out _; (with_reducible repeat (first | refine blk_drewN ?_ _ | refine blk_drew ?_ | refine blk_alloc ?_ _)); refine blk_far ?_ NB184_196.out _; (with_reducible repeat (first | refine blk_drewN ?_ _ | refine blk_drew ?_ | refine blk_alloc ?_ _)); refine blk_far ?_ NB184_196.out _; (with_reducible repeat (first | refine blk_drewN ?_ _ | refine blk_drew ?_ | refine blk_alloc ?_ _)); exact BK184.out⟩, ⟨by (with_reducible repeat (first | refine blk_drewN ?_ _ | refine blk_drew ?_ | refine blk_alloc ?_ _)); refine blk_put (cs := #[.int .i64 t191, .int .u64 t192, .int .u64 t193, .int .i64 0]) ?_ 3 _ rfl; (with_reducible repeat (first | refine blk_drewN ?_ _ | refine blk_drew ?_ | refine blk_alloc ?_ _)); refine blk_put (cs := #[.int .i64 t191, .int .u64 t192, .int .u64 0, .int .i64 0]) ?_ 2 _ rfl; (with_reducible repeat (first | refine blk_drewN ?_ _ | refine blk_drew ?_ | refine blk_alloc ?_ _)); refine blk_put (cs := #[.int .i64 t191, .int .u64 0, .int .u64 0, .int .i64 0]) ?_ 1 _ rfl; (with_reducible repeat (first | refine blk_drewN ?_ _ | refine blk_drew ?_ | refine blk_alloc ?_ _)); refine blk_put (cs := #[.int .i64 0, .int .u64 0, .int .u64 0, .int .i64 0]) ?_ 0 _ rfl; (with_reducible repeat (first | refine blk_drewN ?_ _ | refine blk_drew ?_ | refine blk_alloc ?_ _)); exact BK196.out⟩, ⟨by repeat (first | (with_reducible first | exact HB.out | apply below_alloc | apply pw_below_drewN | apply below_drew1 | refine below_set ?_ GE176.out | refine below_set ?_ GE177.out | refine below_set ?_ GE184.out | refine below_set ?_ GE196.out) | exact HB.out)⟩⟩
                  · rw [if_neg c81] at H
                    have c81b0 : (t195 == 0) = false := beq_eq_false_iff_ne.mpr c81
                    have c81b1 : (t195 != 0) = true := bne_iff_ne.mpr c81
                    have H' := Aside0.mk H
                    clear H
                    go_wp2
                    go_meet
                    case rel => exact ⟨_, (true), (by first | rfl | (simp; done) | (simp [*]; done)), H', ⟨by have := HJ6.out; have := HJ50.out; first | omega | exact Nat.le_refl _⟩, ⟨by (with_reducible repeat (first | refine blk_drewN ?_ _ | refine blk_drew ?_ | refine blk_alloc ?_ _)); refine blk_far ?_ NB176_196.out _; (with_reducible repeat (first | refine blk_drewN ?_ _ | refine blk_drew ?_ | refine blk_alloc ?_ _)); refine blk_far ?_ NB176_196.out _; (with_reducible repeat (first | refine blk_drewN ?_ _ | refine blk_drew ?_ | refine blk_alloc ?_ _)); refine blk_far ?_ NB176_196.out _; (with_reducible repeat (first | refine blk_drewN ?_ _ | refine blk_drew ?_ | refine blk_alloc ?_ _)); refine blk_far ?_ NB176_196.out _; (with_reducible repeat (first | refine blk_drewN ?_ _ | refine blk_drew ?_ | refine blk_alloc ?_ _)); exact BK176.out⟩, ⟨by (with_reducible repeat (first | refine blk_drewN ?_ _ | refine blk_drew ?_ | refine blk_alloc ?_ _)); refine blk_far ?_ NB177_196.out _; (with_reducible repeat (first | refine blk_drewN ?_ _ | refine blk_drew ?_ | refine blk_alloc ?_ _)); refine blk_far ?_ NB177_196.out _; (with_reducible repeat (first | refine blk_drewN ?_ _ | refine blk_drew ?_ | refine blk_alloc ?_ _)); refine blk_far ?_ NB177_196.out _; (with_reducible repeat (first | refine blk_drewN ?_ _ | refine blk_drew ?_ | refine blk_alloc ?_ _)); refine blk_far ?_ NB177_196.out _; (with_reducible repeat (first | refine blk_drewN ?_ _ | refine blk_drew ?_ | refine blk_alloc ?_ _)); exact BK177.out⟩, ⟨by (with_reducible repeat (first | refine blk_drewN ?_ _ | refine blk_drew ?_ | refine blk_alloc ?_ _)); refine blk_far ?_ NB184_196.out _; (with_reducible repeat (first | refine blk_drewN ?_ _ | refine blk_drew ?_ | refine blk_alloc ?_ _)); refine blk_far ?_ NB184_196.out _; (with_reducible repeat (first | refine blk_drewN ?_ _ | refine blk_drew ?_ | refine blk_alloc ?_ _)); refine blk_far ?_ NB184_196.out _; (with_reducible repeat (first | refine blk_drewN ?_ _ | refine blk_drew ?_ | refine blk_alloc ?_ _)); refine blk_far ?_ NB184_196.out _; (with_reducible repeat (first | refine blk_drewN ?_ _ | refine blk_drew ?_ | refine blk_alloc ?_ _)); exact BK184.out⟩, ⟨by (with_reducible repeat (first | refine blk_drewN ?_ _ | refine blk_drew ?_ | refine blk_alloc ?_ _)); refine blk_put (cs := #[.int .i64 t191, .int .u64 t192, .int .u64 t193, .int .i64 0]) ?_ 3 _ rfl; (with_reducible repeat (first | refine blk_drewN ?_ _ | refine blk_drew ?_ | refine blk_alloc ?_ _)); refine blk_put (cs := #[.int .i64 t191, .int .u64 t192, .int .u64 0, .int .i64 0]) ?_ 2 _ rfl; (with_reducible repeat (first | refine blk_drewN ?_ _ | refine blk_drew ?_ | refine blk_alloc ?_ _)); refine blk_put (cs := #[.int .i64 t191, .int .u64 0, .int .u64 0, .int .i64 0]) ?_ 1 _ rfl; (with_reducible repeat (first | refine blk_drewN ?_ _ | refine blk_drew ?_ | refine blk_alloc ?_ _)); refine blk_put (cs := #[.int .i64 0, .int .u64 0, .int .u64 0, .int .i64 0]) ?_ 0 _ rfl; (with_reducible repeat (first | refine blk_drewN ?_ _ | refine blk_drew ?_ | refine blk_alloc ?_ _)); exact BK196.out⟩, ⟨by repeat (first | (with_reducible first | exact HB.out | apply below_alloc | apply pw_below_drewN | apply below_drew1 | refine below_set ?_ GE176.out | refine below_set ?_ GE177.out | refine below_set ?_ GE184.out | refine below_set ?_ GE196.out) | exact HB.out)⟩⟩
                · rw [if_neg c80] at H
                  have c80b0 : (t190 == 0) = false := beq_eq_false_iff_ne.mpr c80
                  have c80b1 : (t190 != 0) = true := bne_iff_ne.mpr c80
                  (first | rw [c80b0] | (simp only [i64_w, i32_w]; rw [c80b0]) | skip)
                  have H' := Aside0.mk H
                  clear H
                  go_wp2
                  go_meet
                  case rel => exact ⟨_, (true), (by first | rfl | (simp; done) | (simp [*]; done)), H', ⟨by have := HJ6.out; have := HJ50.out; first | omega | exact Nat.le_refl _⟩, ⟨by (with_reducible repeat (first | refine blk_drewN ?_ _ | refine blk_drew ?_ | refine blk_alloc ?_ _)); refine blk_far ?_ NB176_196.out _; (with_reducible repeat (first | refine blk_drewN ?_ _ | refine blk_drew ?_ | refine blk_alloc ?_ _)); refine blk_far ?_ NB176_196.out _; (with_reducible repeat (first | refine blk_drewN ?_ _ | refine blk_drew ?_ | refine blk_alloc ?_ _)); refine blk_far ?_ NB176_196.out _; (with_reducible repeat (first | refine blk_drewN ?_ _ | refine blk_drew ?_ | refine blk_alloc ?_ _)); refine blk_far ?_ NB176_196.out _; (with_reducible repeat (first | refine blk_drewN ?_ _ | refine blk_drew ?_ | refine blk_alloc ?_ _)); exact BK176.out⟩, ⟨by (with_reducible repeat (first | refine blk_drewN ?_ _ | refine blk_drew ?_ | refine blk_alloc ?_ _)); refine blk_far ?_ NB177_196.out _; (with_reducible repeat (first | refine blk_drewN ?_ _ | refine blk_drew ?_ | refine blk_alloc ?_ _)); refine blk_far ?_ NB177_196.out _; (with_reducible repeat (first | refine blk_drewN ?_ _ | refine blk_drew ?_ | refine blk_alloc ?_ _)); refine blk_far ?_ NB177_196.out _; (with_reducible repeat (first | refine blk_drewN ?_ _ | refine blk_drew ?_ | refine blk_alloc ?_ _)); refine blk_far ?_ NB177_196.out _; (with_reducible repeat (first | refine blk_drewN ?_ _ | refine blk_drew ?_ | refine blk_alloc ?_ _)); exact BK177.out⟩, ⟨by (with_reducible repeat (first | refine blk_drewN ?_ _ | refine blk_drew ?_ | refine blk_alloc ?_ _)); refine blk_far ?_ NB184_196.out _; (with_reducible repeat (first | refine blk_drewN ?_ _ | refine blk_drew ?_ | refine blk_alloc ?_ _)); refine blk_far ?_ NB184_196.out _; (with_reducible repeat (first | refine blk_drewN ?_ _ | refine blk_drew ?_ | refine blk_alloc ?_ _)); refine blk_far ?_ NB184_196.out _; (with_reducible repeat (first | refine blk_drewN ?_ _ | refine blk_drew ?_ | refine blk_alloc ?_ _)); refine blk_far ?_ NB184_196.out _; (with_reducible repeat (first | refine blk_drewN ?_ _ | refine blk_drew ?_ | refine blk_alloc ?_ _)); exact BK184.out⟩, ⟨by (with_reducible repeat (first | refine blk_drewN ?_ _ | refine blk_drew ?_ | refine blk_alloc ?_ _)); refine blk_put (cs := #[.int .i64 t191, .int .u64 t192, .int .u64 t193, .int .i64 0]) ?_ 3 _ rfl; (with_reducible repeat (first | refine blk_drewN ?_ _ | refine blk_drew ?_ | refine blk_alloc ?_ _)); refine blk_put (cs := #[.int .i64 t191, .int .u64 t192, .int .u64 0, .int .i64 0]) ?_ 2 _ rfl; (with_reducible repeat (first | refine blk_drewN ?_ _ | refine blk_drew ?_ | refine blk_alloc ?_ _)); refine blk_put (cs := #[.int .i64 t191, .int .u64 0, .int .u64 0, .int .i64 0]) ?_ 1 _ rfl; (with_reducible repeat (first | refine blk_drewN ?_ _ | refine blk_drew ?_ | refine blk_alloc ?_ _)); refine blk_put (cs := #[.int .i64 0, .int .u64 0, .int .u64 0, .int .i64 0]) ?_ 0 _ rfl; (with_reducible repeat (first | refine blk_drewN ?_ _ | refine blk_drew ?_ | refine blk_alloc ?_ _)); exact BK196.out⟩, ⟨by repeat (first | (with_reducible first | exact HB.out | apply below_alloc | apply pw_below_drewN | apply below_drew1 | refine below_set ?_ GE176.out | refine below_set ?_ GE177.out | refine below_set ?_ GE184.out | refine below_set ?_ GE196.out) | exact HB.out)⟩⟩
              case rest =>
                clear HC69
                try clear c1
                try clear c2
                try clear p2
                try clear q2
                try clear hx2
                try clear qi2
                try clear c3
                try clear c4
                try clear c5
                try clear c6
                try clear c7
                try clear c8
                try clear c9
                try clear c13
                try clear c14
                try clear c16
                try clear c16b0
                try clear c16b1
                try clear c18
                try clear c18b0
                try clear c18b1
                try clear c19
                try clear c19b0
                try clear c19b1
                try clear c20
                try clear c20b0
                try clear c20b1
                try clear p21
                try clear q21
                try clear hx21
                try clear qi21
                try clear c22
                try clear c22b0
                try clear c22b1
                try clear c23
                try clear c23b0
                try clear c23b1
                try clear c24
                try clear c24b0
                try clear c24b1
                try clear c25
                try clear c26
                try clear p29
                try clear q29
                try clear hx29
                try clear qi29
                try clear c30
                try clear c30b0
                try clear c30b1
                try clear c31
                try clear c31b0
                try clear c31b1
                try clear c32
                try clear c32b0
                try clear c32b1
                try clear c33
                try clear c34
                try clear c37
                try clear c37b0
                try clear c37b1
                try clear c38
                try clear c39
                try clear c42
                try clear c42b0
                try clear c42b1
                try clear c43
                try clear c44
                try clear c47
                try clear c47b0
                try clear c48
                try clear c49
                try clear c53
                try clear c53b0
                try clear c53b1
                try clear c55
                try clear c56
                try clear c59
                try clear c62
                try clear c63
                try clear c66
                try clear c70
                try clear c71
                try clear c76
                try clear c77
                try clear c78
                try clear c80
                try clear c80b0
                try clear c80b1
                try clear c81
                try clear c81b0
                try clear c81b1
                try clear c82
                try clear c83
                try clear c84
                try clear c86
                try clear c87
                try clear hcz15_0
                try clear hcz15_1
                try clear hcz15_2
                try clear hcz15_3
                try clear hcz27_0
                try clear hcz27_1
                try clear hcz27_2
                try clear hcz27_3
                try clear hcz35_0
                try clear hcz35_1
                try clear hcz35_2
                try clear hcz35_3
                try clear hcz40_0
                try clear hcz40_1
                try clear hcz40_2
                try clear hcz40_3
                try clear hcz45_0
                try clear hcz45_1
                try clear hcz45_2
                try clear hcz45_3
                try clear hcz50_0
                try clear hcz50_1
                try clear hcz50_2
                try clear hcz50_3
                try clear hcz57_0
                try clear hcz57_1
                try clear hcz57_2
                try clear hcz57_3
                try clear hcz60_0
                try clear hcz60_1
                try clear hcz60_2
                try clear hcz60_3
                try clear hcz64_0
                try clear hcz64_1
                try clear hcz64_2
                try clear hcz64_3
                try clear hcz72_0
                try clear hcz72_1
                try clear hcz72_2
                try clear hcz72_3
                try clear hcz79_0
                try clear hcz79_1
                try clear hcz79_2
                try clear hcz79_3
                try clear hcz85_0
                try clear hcz85_1
                try clear hcz85_2
                try clear hcz85_3
                try clear hcz88_0
                try clear hcz88_1
                try clear hcz88_2
                try clear hcz88_3
                try clear hfz15_0
                try clear hfz15_1
                try clear hfz15_2
                try clear hfz15_3
                try clear hfz27_0
                try clear hfz27_1
                try clear hfz27_2
                try clear hfz27_3
                try clear hfz35_0
                try clear hfz35_1
                try clear hfz35_2
                try clear hfz35_3
                try clear hfz40_0
                try clear hfz40_1
                try clear hfz40_2
                try clear hfz40_3
                try clear hfz45_0
                try clear hfz45_1
                try clear hfz45_2
                try clear hfz45_3
                try clear hfz50_0
                try clear hfz50_1
                try clear hfz50_2
                try clear hfz50_3
                try clear hfz57_0
                try clear hfz57_1
                try clear hfz57_2
                try clear hfz57_3
                try clear hfz60_0
                try clear hfz60_1
                try clear hfz60_2
                try clear hfz60_3
                try clear hfz64_0
                try clear hfz64_1
                try clear hfz64_2
                try clear hfz64_3
                try clear hfz72_0
                try clear hfz72_1
                try clear hfz72_2
                try clear hfz72_3
                try clear hfz79_0
                try clear hfz79_1
                try clear hfz79_2
                try clear hfz79_3
                try clear hfz85_0
                try clear hfz85_1
                try clear hfz85_2
                try clear hfz85_3
                try clear hfz88_0
                try clear hfz88_1
                try clear hfz88_2
                try clear hfz88_3
                try clear p2
                try clear p21
                try clear p29
                try clear q2
                try clear q21
                try clear q29
                obtain ⟨kq, x94_68, rfl, HA, HJ68, BK176, BK177, BK184, BK196, HB⟩ := hcut
                cases kq with
                | zero => exact absurd HA.out (by simp [cubitlaw07_PauliTexts.j2])
                | succ kj68 =>
                  have H := HA.out
                  clear HA
                  simp only [cubitlaw07_PauliTexts.j2] at H
                  by_cases c89 : x94_68 = true
                  · subst c89
                    have H1 : (some false) = some r := by rw [if_pos rfl] at H; exact H
                    clear H
                    have H := H1
                    clear H1
                    exact absurd (HTRUE.out.symm.trans (Option.some.inj H).symm) (by decide)
                  · replace c89 := Bool.eq_false_iff.mpr c89
                    subst c89
                    have H1 : (if a0_0 = a1_0 then ((pauli_Mul.f a0_0 a0_1 a0_2 a0_3 a1_0 a1_1 a1_2 a1_3).bind fun bt203 => ((pauli_Weight.f a0_0 a0_1 a0_2 a0_3).bind fun bt209 => ((pauli_Weight.f a1_0 a1_1 a1_2 a1_3).bind fun bt211 => ((pauli_Weight.f bt203.1 bt203.2.1 bt203.2.2.1 bt203.2.2.2.1).bind fun bt213 => (if bt203.2.2.2.2 = 0 then (if bt209.2 = 0 then (if bt211.2 = 0 then (if bt213.2 = 0 then (if bt213.1 ≤ (wrap64 (bt209.1 + bt211.1)) then (if bt209.1 ≤ a0_0 then (some (decide (bt213.1 ≥ (wrap64 (bt209.1 - bt211.1))))) else (some false)) else (some false)) else (some false)) else (some false)) else (some false)) else (some false)))))) else ((pauli_Mul.f a0_0 a0_1 a0_2 a0_3 a1_0 a1_1 a1_2 a1_3).bind fun bt197 => (some (bt197.2.2.2.2 == 2)))) = some r := by rw [if_neg (show ¬ (false = true) by decide)] at H; exact H
                    clear H
                    have H := H1
                    clear H1
                    by_cases c90 : a0_0 = a1_0
                    · rw [if_pos c90] at H
                      have c90b0 : (a0_0 == a1_0) = true := beq_iff_eq.mpr c90
                      have c90b1 : (a0_0 != a1_0) = false := bne_eq_false_iff_eq.mpr c90
                      clear c90
                      replace H := Option.bind_eq_some_iff.mp H
                      obtain ⟨⟨t203, t204, t205, t206, t207⟩, A910, H⟩ := H
                      replace H : ((pauli_Weight.f a0_0 a0_1 a0_2 a0_3).bind fun bt209 => ((pauli_Weight.f a1_0 a1_1 a1_2 a1_3).bind fun bt211 => ((pauli_Weight.f t203 t204 t205 t206).bind fun bt213 => (if t207 = 0 then (if bt209.2 = 0 then (if bt211.2 = 0 then (if bt213.2 = 0 then (if bt213.1 ≤ (wrap64 (bt209.1 + bt211.1)) then (if bt209.1 ≤ a0_0 then (some (decide (bt213.1 ≥ (wrap64 (bt209.1 - bt211.1))))) else (some false)) else (some false)) else (some false)) else (some false)) else (some false)) else (some false))))) = some r := H
                      have A91 := Aside0.mk A910
                      clear A910
                      replace H := Option.bind_eq_some_iff.mp H
                      obtain ⟨⟨t209, t210⟩, A920, H⟩ := H
                      replace H : ((pauli_Weight.f a1_0 a1_1 a1_2 a1_3).bind fun bt211 => ((pauli_Weight.f t203 t204 t205 t206).bind fun bt213 => (if t207 = 0 then (if t210 = 0 then (if bt211.2 = 0 then (if bt213.2 = 0 then (if bt213.1 ≤ (wrap64 (t209 + bt211.1)) then (if t209 ≤ a0_0 then (some (decide (bt213.1 ≥ (wrap64 (t209 - bt211.1))))) else (some false)) else (some false)) else (some false)) else (some false)) else (some false)) else (some false)))) = some r := H
                      have A92 := Aside0.mk A920
                      clear A920
                      replace H := Option.bind_eq_some_iff.mp H
                      obtain ⟨⟨t211, t212⟩, A930, H⟩ := H
                      replace H : ((pauli_Weight.f t203 t204 t205 t206).bind fun bt213 => (if t207 = 0 then (if t210 = 0 then (if t212 = 0 then (if bt213.2 = 0 then (if bt213.1 ≤ (wrap64 (t209 + t211)) then (if t209 ≤ a0_0 then (some (decide (bt213.1 ≥ (wrap64 (t209 - t211))))) else (some false)) else (some false)) else (some false)) else (some false)) else (some false)) else (some false))) = some r := H
                      have A93 := Aside0.mk A930
                      clear A930
                      replace H := Option.bind_eq_some_iff.mp H
                      obtain ⟨⟨t213, t214⟩, A940, H⟩ := H
                      replace H : (if t207 = 0 then (if t210 = 0 then (if t212 = 0 then (if t214 = 0 then (if t213 ≤ (wrap64 (t209 + t211)) then (if t209 ≤ a0_0 then (some (decide (t213 ≥ (wrap64 (t209 - t211))))) else (some false)) else (some false)) else (some false)) else (some false)) else (some false)) else (some false)) = some r := H
                      have A94 := Aside0.mk A940
                      clear A940
                      by_cases c95 : t207 = 0
                      · rw [if_pos c95] at H
                        have c95b0 : (t207 == 0) = true := beq_iff_eq.mpr c95
                        have c95b1 : (t207 != 0) = false := bne_eq_false_iff_eq.mpr c95
                        clear c95
                        by_cases c96 : t210 = 0
                        · rw [if_pos c96] at H
                          have c96b0 : (t210 == 0) = true := beq_iff_eq.mpr c96
                          have c96b1 : (t210 != 0) = false := bne_eq_false_iff_eq.mpr c96
                          clear c96
                          by_cases c97 : t212 = 0
                          · rw [if_pos c97] at H
                            have c97b0 : (t212 == 0) = true := beq_iff_eq.mpr c97
                            have c97b1 : (t212 != 0) = false := bne_eq_false_iff_eq.mpr c97
                            clear c97
                            by_cases c98 : t214 = 0
                            · rw [if_pos c98] at H
                              have c98b0 : (t214 == 0) = true := beq_iff_eq.mpr c98
                              have c98b1 : (t214 != 0) = false := bne_eq_false_iff_eq.mpr c98
                              clear c98
                              by_cases c99 : t213 ≤ (wrap64 (t209 + t211))
                              · rw [if_pos c99] at H
                                have c99b0 : decide (t213 ≤ (wrap64 (t209 + t211))) = true := decide_eq_true c99
                                clear c99
                                by_cases c100 : t209 ≤ a0_0
                                · rw [if_pos c100] at H
                                  have c100b0 : decide (t209 ≤ a0_0) = true := decide_eq_true c100
                                  clear c100
                                  obtain rfl := Option.some.inj H
                                  have hnb101 := NB176_177.out
                                  have hnc101 := NB177_176.out
                                  have hnb102 := NB176_184.out
                                  have hnc102 := NB184_176.out
                                  have hnb103 := NB176_196.out
                                  have hnc103 := NB196_176.out
                                  have hcz104_0 : wc.cell? ⟨gb176, 0, none⟩ = some (.int .i64 a0_0) := (blk_cell BK176.out 0).trans rfl
                                  have hcz104_1 : wc.cell? ⟨gb176, 1, none⟩ = some (.int .u64 a0_1) := (blk_cell BK176.out 1).trans rfl
                                  have hcz104_2 : wc.cell? ⟨gb176, 2, none⟩ = some (.int .u64 a0_2) := (blk_cell BK176.out 2).trans rfl
                                  have hcz104_3 : wc.cell? ⟨gb176, 3, none⟩ = some (.int .i64 a0_3) := (blk_cell BK176.out 3).trans rfl
                                  have hfz104_0 := blk_frozen BK176.out 0
                                  have hfz104_1 := blk_frozen BK176.out 1
                                  have hfz104_2 := blk_frozen BK176.out 2
                                  have hfz104_3 := blk_frozen BK176.out 3
                                  have hnb105 := NB177_184.out
                                  have hnc105 := NB184_177.out
                                  have hnb106 := NB177_196.out
                                  have hnc106 := NB196_177.out
                                  have hcz107_0 : wc.cell? ⟨gb177, 0, none⟩ = some (.int .i64 a1_0) := (blk_cell BK177.out 0).trans rfl
                                  have hcz107_1 : wc.cell? ⟨gb177, 1, none⟩ = some (.int .u64 a1_1) := (blk_cell BK177.out 1).trans rfl
                                  have hcz107_2 : wc.cell? ⟨gb177, 2, none⟩ = some (.int .u64 a1_2) := (blk_cell BK177.out 2).trans rfl
                                  have hcz107_3 : wc.cell? ⟨gb177, 3, none⟩ = some (.int .i64 a1_3) := (blk_cell BK177.out 3).trans rfl
                                  have hfz107_0 := blk_frozen BK177.out 0
                                  have hfz107_1 := blk_frozen BK177.out 1
                                  have hfz107_2 := blk_frozen BK177.out 2
                                  have hfz107_3 := blk_frozen BK177.out 3
                                  go_wp2_with (first | ((with_reducible refine gate_callee (f := 10) rfl ?_); refine goesL_ (some 111) rfl rfl Tryd.func10 (by kernel_rfl) rfl #[.agg #[.int .i64 a0_0, .int .u64 a0_1, .int .u64 a0_2, .int .i64 a0_3], .agg #[.int .i64 a1_0, .int .u64 a1_1, .int .u64 a1_2, .int .i64 a1_3]] rfl (by (try simp only [List.map_toArray, List.map_cons, List.map_nil]); first | done | rfl | (simp only [List.length_drop, List.length_take]; rfl)) ?_; (with_reducible refine (pauli_Mul.calls a0_0 a0_1 a0_2 a0_3 a1_0 a1_1 a1_2 a1_3 t203 t204 t205 t206 t207 _ A91.out).mono ?_); rintro e w108 ⟨rfl, hb⟩; refine ⟨_, rfl, ?_⟩; have n0_ := Aside0.mk (blk_below (g := gb176) (o := .cells #[.int .i64 a0_0, .int .u64 a0_1, .int .u64 a0_2, .int .i64 a0_3] 26 (0, 0)) (by (with_reducible repeat (first | refine blk_drewN ?_ _ | refine blk_drew ?_ | refine blk_alloc ?_ _)); exact BK176.out) hb); have n1_ := Aside0.mk (blk_below (g := gb177) (o := .cells #[.int .i64 a1_0, .int .u64 a1_1, .int .u64 a1_2, .int .i64 a1_3] 26 (0, 0)) (by (with_reducible repeat (first | refine blk_drewN ?_ _ | refine blk_drew ?_ | refine blk_alloc ?_ _)); exact BK177.out) hb); have n2_ := Aside0.mk (blk_below (g := gb184) (o := .cells #[.int .i64 t179, .int .u64 t180, .int .u64 t181, .int .i64 t182] 26 (0, 0)) (by (with_reducible repeat (first | refine blk_drewN ?_ _ | refine blk_drew ?_ | refine blk_alloc ?_ _)); exact BK184.out) hb); have n3_ := Aside0.mk (blk_below (g := gb196) (o := .cells #[.int .i64 t191, .int .u64 t192, .int .u64 t193, .int .i64 t194] 26 (0, 0)) (by (with_reducible repeat (first | refine blk_drewN ?_ _ | refine blk_drew ?_ | refine blk_alloc ?_ _)); exact BK196.out) hb); have n4_ := Aside0.mk (below_step (by repeat (first | (with_reducible first | exact HB.out | apply below_alloc | apply pw_below_drewN | apply below_drew1 | refine below_set ?_ GE176.out | refine below_set ?_ GE177.out | refine below_set ?_ GE184.out | refine below_set ?_ GE196.out) | exact HB.out)) hb); clear BK176; clear BK177; clear BK184; clear BK196; clear HB; have BK176 := n0_; have BK177 := n1_; have BK184 := n2_; have BK196 := n3_; have HB := n4_; clear n0_ n1_ n2_ n3_ n4_; (try clear hb); (try clear hb2); (try clear hk); (try clear hi)) | ((with_reducible refine gate_dst (N := 16) rfl ?_); (try (refine gate_guard (by rfl) ?_; dsimp only)); refine box_event ?hg (N := 16) ?hd (cs := #[.int .i64 0, .int .u64 0, .int .u64 0, .int .i64 0]) (t := 26) ?hr ?_; (case hd => rfl); (case hg => rfl); (case hr => first | (go_simp; done) | (go_simp; rfl)); intro gb208 hg w109 hbox hb; have n0_ := Aside0.mk (blk_below (g := gb176) (o := .cells #[.int .i64 a0_0, .int .u64 a0_1, .int .u64 a0_2, .int .i64 a0_3] 26 (0, 0)) (by (with_reducible repeat (first | refine blk_drewN ?_ _ | refine blk_drew ?_ | refine blk_alloc ?_ _)); exact BK176.out) hb); have n1_ := Aside0.mk (blk_below (g := gb177) (o := .cells #[.int .i64 a1_0, .int .u64 a1_1, .int .u64 a1_2, .int .i64 a1_3] 26 (0, 0)) (by (with_reducible repeat (first | refine blk_drewN ?_ _ | refine blk_drew ?_ | refine blk_alloc ?_ _)); exact BK177.out) hb); have n2_ := Aside0.mk (blk_below (g := gb184) (o := .cells #[.int .i64 t179, .int .u64 t180, .int .u64 t181, .int .i64 t182] 26 (0, 0)) (by (with_reducible repeat (first | refine blk_drewN ?_ _ | refine blk_drew ?_ | refine blk_alloc ?_ _)); exact BK184.out) hb); have n3_ := Aside0.mk (blk_below (g := gb196) (o := .cells #[.int .i64 t191, .int .u64 t192, .int .u64 t193, .int .i64 t194] 26 (0, 0)) (by (with_reducible repeat (first | refine blk_drewN ?_ _ | refine blk_drew ?_ | refine blk_alloc ?_ _)); exact BK196.out) hb); have n4_ := Aside0.mk (below_step (by repeat (first | (with_reducible first | exact HB.out | apply below_alloc | apply pw_below_drewN | apply below_drew1 | refine below_set ?_ GE176.out | refine below_set ?_ GE177.out | refine below_set ?_ GE184.out | refine below_set ?_ GE196.out) | exact HB.out)) hb); have n5_ := Aside0.mk (hbox); have n6_ := Aside0.mk ((by rw [hg]; exact (below_size (by repeat (first | (with_reducible first | exact HB.out | apply below_alloc | apply pw_below_drewN | apply below_drew1 | refine below_set ?_ GE176.out | refine below_set ?_ GE177.out | refine below_set ?_ GE184.out | refine below_set ?_ GE196.out) | exact HB.out))) : w.heap.size ≤ gb208)); have n7_ := Aside0.mk ((by rw [hg]; exact (below_size (by repeat (first | (with_reducible first | exact HB.out | apply below_alloc | apply pw_below_drewN | apply below_drew1 | refine below_set ?_ GE176.out | refine below_set ?_ GE177.out | refine below_set ?_ GE184.out | refine below_set ?_ GE196.out) | exact HB.out))) : w.heap.size ≤ gb208)); have n8_ := Aside0.mk ((by rw [hg]; exact Nat.ne_of_lt (blk_lt (g := gb176) (o := .cells #[.int .i64 a0_0, .int .u64 a0_1, .int .u64 a0_2, .int .i64 a0_3] 26 (0, 0)) (by (with_reducible repeat (first | refine blk_drewN ?_ _ | refine blk_drew ?_ | refine blk_alloc ?_ _)); exact BK176.out)) : gb176 ≠ gb208)); have n9_ := Aside0.mk ((by rw [hg]; exact Nat.ne_of_gt (blk_lt (g := gb176) (o := .cells #[.int .i64 a0_0, .int .u64 a0_1, .int .u64 a0_2, .int .i64 a0_3] 26 (0, 0)) (by (with_reducible repeat (first | refine blk_drewN ?_ _ | refine blk_drew ?_ | refine blk_alloc ?_ _)); exact BK176.out)) : gb208 ≠ gb176)); have n10_ := Aside0.mk ((by rw [hg]; exact Nat.ne_of_lt (blk_lt (g := gb177) (o := .cells #[.int .i64 a1_0, .int .u64 a1_1, .int .u64 a1_2, .int .i64 a1_3] 26 (0, 0)) (by (with_reducible repeat (first | refine blk_drewN ?_ _ | refine blk_drew ?_ | refine blk_alloc ?_ _)); exact BK177.out)) : gb177 ≠ gb208)); have n11_ := Aside0.mk ((by rw [hg]; exact Nat.ne_of_gt (blk_lt (g := gb177) (o := .cells #[.int .i64 a1_0, .int .u64 a1_1, .int .u64 a1_2, .int .i64 a1_3] 26 (0, 0)) (by (with_reducible repeat (first | refine blk_drewN ?_ _ | refine blk_drew ?_ | refine blk_alloc ?_ _)); exact BK177.out)) : gb208 ≠ gb177)); have n12_ := Aside0.mk ((by rw [hg]; exact Nat.ne_of_lt (blk_lt (g := gb184) (o := .cells #[.int .i64 t179, .int .u64 t180, .int .u64 t181, .int .i64 t182] 26 (0, 0)) (by (with_reducible repeat (first | refine blk_drewN ?_ _ | refine blk_drew ?_ | refine blk_alloc ?_ _)); exact BK184.out)) : gb184 ≠ gb208)); have n13_ := Aside0.mk ((by rw [hg]; exact Nat.ne_of_gt (blk_lt (g := gb184) (o := .cells #[.int .i64 t179, .int .u64 t180, .int .u64 t181, .int .i64 t182] 26 (0, 0)) (by (with_reducible repeat (first | refine blk_drewN ?_ _ | refine blk_drew ?_ | refine blk_alloc ?_ _)); exact BK184.out)) : gb208 ≠ gb184)); have n14_ := Aside0.mk ((by rw [hg]; exact Nat.ne_of_lt (blk_lt (g := gb196) (o := .cells #[.int .i64 t191, .int .u64 t192, .int .u64 t193, .int .i64 t194] 26 (0, 0)) (by (with_reducible repeat (first | refine blk_drewN ?_ _ | refine blk_drew ?_ | refine blk_alloc ?_ _)); exact BK196.out)) : gb196 ≠ gb208)); have n15_ := Aside0.mk ((by rw [hg]; exact Nat.ne_of_gt (blk_lt (g := gb196) (o := .cells #[.int .i64 t191, .int .u64 t192, .int .u64 t193, .int .i64 t194] 26 (0, 0)) (by (with_reducible repeat (first | refine blk_drewN ?_ _ | refine blk_drew ?_ | refine blk_alloc ?_ _)); exact BK196.out)) : gb208 ≠ gb196)); clear BK176; clear BK177; clear BK184; clear BK196; clear HB; have BK176 := n0_; have BK177 := n1_; have BK184 := n2_; have BK196 := n3_; have HB := n4_; have BK208 := n5_; have GW208 := n6_; have GE208 := n7_; have NB176_208 := n8_; have NB208_176 := n9_; have NB177_208 := n10_; have NB208_177 := n11_; have NB184_208 := n12_; have NB208_184 := n13_; have NB196_208 := n14_; have NB208_196 := n15_; clear n0_ n1_ n2_ n3_ n4_ n5_ n6_ n7_ n8_ n9_ n10_ n11_ n12_ n13_ n14_ n15_; clear hb hbox hg; have hnb110 := NB208_176.out; have hnc110 := NB176_208.out; have hnb111 := NB208_177.out; have hnc111 := NB177_208.out; have hnb112 := NB208_184.out; have hnc112 := NB184_208.out; have hnb113 := NB208_196.out; have hnc113 := NB196_208.out; have hcz114_0 : w109.cell? ⟨gb208, 0, none⟩ = some (.int .i64 0) := (blk_cell BK208.out 0).trans rfl; have hcz114_1 : w109.cell? ⟨gb208, 1, none⟩ = some (.int .u64 0) := (blk_cell BK208.out 1).trans rfl; have hcz114_2 : w109.cell? ⟨gb208, 2, none⟩ = some (.int .u64 0) := (blk_cell BK208.out 2).trans rfl; have hcz114_3 : w109.cell? ⟨gb208, 3, none⟩ = some (.int .i64 0) := (blk_cell BK208.out 3).trans rfl; have hfz114_0 := blk_frozen BK208.out 0; have hfz114_1 := blk_frozen BK208.out 1; have hfz114_2 := blk_frozen BK208.out 2; have hfz114_3 := blk_frozen BK208.out 3; have hcz115_0 : w109.cell? ⟨gb176, 0, none⟩ = some (.int .i64 a0_0) := (blk_cell BK176.out 0).trans rfl; have hcz115_1 : w109.cell? ⟨gb176, 1, none⟩ = some (.int .u64 a0_1) := (blk_cell BK176.out 1).trans rfl; have hcz115_2 : w109.cell? ⟨gb176, 2, none⟩ = some (.int .u64 a0_2) := (blk_cell BK176.out 2).trans rfl; have hcz115_3 : w109.cell? ⟨gb176, 3, none⟩ = some (.int .i64 a0_3) := (blk_cell BK176.out 3).trans rfl; have hfz115_0 := blk_frozen BK176.out 0; have hfz115_1 := blk_frozen BK176.out 1; have hfz115_2 := blk_frozen BK176.out 2; have hfz115_3 := blk_frozen BK176.out 3) | ((with_reducible refine gate_callee (f := 11) rfl ?_); refine goesL_ (some 116) rfl rfl Tryd.func11 (by kernel_rfl) rfl #[.agg #[.int .i64 a0_0, .int .u64 a0_1, .int .u64 a0_2, .int .i64 a0_3]] rfl (by (try simp only [List.map_toArray, List.map_cons, List.map_nil]); first | done | rfl | (simp only [List.length_drop, List.length_take]; rfl)) ?_; (with_reducible refine (pauli_Weight.calls a0_0 a0_1 a0_2 a0_3 t209 t210 _ A92.out).mono ?_); rintro e w116 ⟨rfl, hb⟩; refine ⟨_, rfl, ?_⟩; have n0_ := Aside0.mk (blk_below (g := gb176) (o := .cells #[.int .i64 a0_0, .int .u64 a0_1, .int .u64 a0_2, .int .i64 a0_3] 26 (0, 0)) (by (with_reducible repeat (first | refine blk_drewN ?_ _ | refine blk_drew ?_ | refine blk_alloc ?_ _)); refine blk_far ?_ NB176_208.out _; (with_reducible repeat (first | refine blk_drewN ?_ _ | refine blk_drew ?_ | refine blk_alloc ?_ _)); refine blk_far ?_ NB176_208.out _; (with_reducible repeat (first | refine blk_drewN ?_ _ | refine blk_drew ?_ | refine blk_alloc ?_ _)); refine blk_far ?_ NB176_208.out _; (with_reducible repeat (first | refine blk_drewN ?_ _ | refine blk_drew ?_ | refine blk_alloc ?_ _)); refine blk_far ?_ NB176_208.out _; (with_reducible repeat (first | refine blk_drewN ?_ _ | refine blk_drew ?_ | refine blk_alloc ?_ _)); exact BK176.out) hb); have n1_ := Aside0.mk (blk_below (g := gb177) (o := .cells #[.int .i64 a1_0, .int .u64 a1_1, .int .u64 a1_2, .int .i64 a1_3] 26 (0, 0)) (by (with_reducible repeat (first | refine blk_drewN ?_ _ | refine blk_drew ?_ | refine blk_alloc ?_ _)); refine blk_far ?_ NB177_208.out _; (with_reducible repeat (first | refine blk_drewN ?_ _ | refine blk_drew ?_ | refine blk_alloc ?_ _)); refine blk_far ?_ NB177_208.out _; (with_reducible repeat (first | refine blk_drewN ?_ _ | refine blk_drew ?_ | refine blk_alloc ?_ _)); refine blk_far ?_ NB177_208.out _; (with_reducible repeat (first | refine blk_drewN ?_ _ | refine blk_drew ?_ | refine blk_alloc ?_ _)); refine blk_far ?_ NB177_208.out _; (with_reducible repeat (first | refine blk_drewN ?_ _ | refine blk_drew ?_ | refine blk_alloc ?_ _)); exact BK177.out) hb); have n2_ := Aside0.mk (blk_below (g := gb184) (o := .cells #[.int .i64 t179, .int .u64 t180, .int .u64 t181, .int .i64 t182] 26 (0, 0)) (by (with_reducible repeat (first | refine blk_drewN ?_ _ | refine blk_drew ?_ | refine blk_alloc ?_ _)); refine blk_far ?_ NB184_208.out _; (with_reducible repeat (first | refine blk_drewN ?_ _ | refine blk_drew ?_ | refine blk_alloc ?_ _)); refine blk_far ?_ NB184_208.out _; (with_reducible repeat (first | refine blk_drewN ?_ _ | refine blk_drew ?_ | refine blk_alloc ?_ _)); refine blk_far ?_ NB184_208.out _; (with_reducible repeat (first | refine blk_drewN ?_ _ | refine blk_drew ?_ | refine blk_alloc ?_ _)); refine blk_far ?_ NB184_208.out _; (with_reducible repeat (first | refine blk_drewN ?_ _ | refine blk_drew ?_ | refine blk_alloc ?_ _)); exact BK184.out) hb); have n3_ := Aside0.mk (blk_below (g := gb196) (o := .cells #[.int .i64 t191, .int .u64 t192, .int .u64 t193, .int .i64 t194] 26 (0, 0)) (by (with_reducible repeat (first | refine blk_drewN ?_ _ | refine blk_drew ?_ | refine blk_alloc ?_ _)); refine blk_far ?_ NB196_208.out _; (with_reducible repeat (first | refine blk_drewN ?_ _ | refine blk_drew ?_ | refine blk_alloc ?_ _)); refine blk_far ?_ NB196_208.out _; (with_reducible repeat (first | refine blk_drewN ?_ _ | refine blk_drew ?_ | refine blk_alloc ?_ _)); refine blk_far ?_ NB196_208.out _; (with_reducible repeat (first | refine blk_drewN ?_ _ | refine blk_drew ?_ | refine blk_alloc ?_ _)); refine blk_far ?_ NB196_208.out _; (with_reducible repeat (first | refine blk_drewN ?_ _ | refine blk_drew ?_ | refine blk_alloc ?_ _)); exact BK196.out) hb); have n4_ := Aside0.mk (blk_below (g := gb208) (o := .cells #[.int .i64 t203, .int .u64 t204, .int .u64 t205, .int .i64 t206] 26 (0, 0)) (by (with_reducible repeat (first | refine blk_drewN ?_ _ | refine blk_drew ?_ | refine blk_alloc ?_ _)); refine blk_put (cs := #[.int .i64 t203, .int .u64 t204, .int .u64 t205, .int .i64 0]) ?_ 3 _ rfl; (with_reducible repeat (first | refine blk_drewN ?_ _ | refine blk_drew ?_ | refine blk_alloc ?_ _)); refine blk_put (cs := #[.int .i64 t203, .int .u64 t204, .int .u64 0, .int .i64 0]) ?_ 2 _ rfl; (with_reducible repeat (first | refine blk_drewN ?_ _ | refine blk_drew ?_ | refine blk_alloc ?_ _)); refine blk_put (cs := #[.int .i64 t203, .int .u64 0, .int .u64 0, .int .i64 0]) ?_ 1 _ rfl; (with_reducible repeat (first | refine blk_drewN ?_ _ | refine blk_drew ?_ | refine blk_alloc ?_ _)); refine blk_put (cs := #[.int .i64 0, .int .u64 0, .int .u64 0, .int .i64 0]) ?_ 0 _ rfl; (with_reducible repeat (first | refine blk_drewN ?_ _ | refine blk_drew ?_ | refine blk_alloc ?_ _)); exact BK208.out) hb); have n5_ := Aside0.mk (below_step (by repeat (first | (with_reducible first | exact HB.out | apply below_alloc | apply pw_below_drewN | apply below_drew1 | refine below_set ?_ GE176.out | refine below_set ?_ GE177.out | refine below_set ?_ GE184.out | refine below_set ?_ GE196.out | refine below_set ?_ GE208.out) | exact HB.out)) hb); clear BK176; clear BK177; clear BK184; clear BK196; clear BK208; clear HB; have BK176 := n0_; have BK177 := n1_; have BK184 := n2_; have BK196 := n3_; have BK208 := n4_; have HB := n5_; clear n0_ n1_ n2_ n3_ n4_ n5_; (try clear hb); (try clear hb2); (try clear hk); (try clear hi); have hcz117_0 : w116.cell? ⟨gb177, 0, none⟩ = some (.int .i64 a1_0) := (blk_cell BK177.out 0).trans rfl; have hcz117_1 : w116.cell? ⟨gb177, 1, none⟩ = some (.int .u64 a1_1) := (blk_cell BK177.out 1).trans rfl; have hcz117_2 : w116.cell? ⟨gb177, 2, none⟩ = some (.int .u64 a1_2) := (blk_cell BK177.out 2).trans rfl; have hcz117_3 : w116.cell? ⟨gb177, 3, none⟩ = some (.int .i64 a1_3) := (blk_cell BK177.out 3).trans rfl; have hfz117_0 := blk_frozen BK177.out 0; have hfz117_1 := blk_frozen BK177.out 1; have hfz117_2 := blk_frozen BK177.out 2; have hfz117_3 := blk_frozen BK177.out 3) | ((with_reducible refine gate_callee (f := 11) rfl ?_); refine goesL_ (some 121) rfl rfl Tryd.func11 (by kernel_rfl) rfl #[.agg #[.int .i64 a1_0, .int .u64 a1_1, .int .u64 a1_2, .int .i64 a1_3]] rfl (by (try simp only [List.map_toArray, List.map_cons, List.map_nil]); first | done | rfl | (simp only [List.length_drop, List.length_take]; rfl)) ?_; (with_reducible refine (pauli_Weight.calls a1_0 a1_1 a1_2 a1_3 t211 t212 _ A93.out).mono ?_); rintro e w118 ⟨rfl, hb⟩; refine ⟨_, rfl, ?_⟩; have n0_ := Aside0.mk (blk_below (g := gb176) (o := .cells #[.int .i64 a0_0, .int .u64 a0_1, .int .u64 a0_2, .int .i64 a0_3] 26 (0, 0)) (by (with_reducible repeat (first | refine blk_drewN ?_ _ | refine blk_drew ?_ | refine blk_alloc ?_ _)); exact BK176.out) hb); have n1_ := Aside0.mk (blk_below (g := gb177) (o := .cells #[.int .i64 a1_0, .int .u64 a1_1, .int .u64 a1_2, .int .i64 a1_3] 26 (0, 0)) (by (with_reducible repeat (first | refine blk_drewN ?_ _ | refine blk_drew ?_ | refine blk_alloc ?_ _)); exact BK177.out) hb); have n2_ := Aside0.mk (blk_below (g := gb184) (o := .cells #[.int .i64 t179, .int .u64 t180, .int .u64 t181, .int .i64 t182] 26 (0, 0)) (by (with_reducible repeat (first | refine blk_drewN ?_ _ | refine blk_drew ?_ | refine blk_alloc ?_ _)); exact BK184.out) hb); have n3_ := Aside0.mk (blk_below (g := gb196) (o := .cells #[.int .i64 t191, .int .u64 t192, .int .u64 t193, .int .i64 t194] 26 (0, 0)) (by (with_reducible repeat (first | refine blk_drewN ?_ _ | refine blk_drew ?_ | refine blk_alloc ?_ _)); exact BK196.out) hb); have n4_ := Aside0.mk (blk_below (g := gb208) (o := .cells #[.int .i64 t203, .int .u64 t204, .int .u64 t205, .int .i64 t206] 26 (0, 0)) (by (with_reducible repeat (first | refine blk_drewN ?_ _ | refine blk_drew ?_ | refine blk_alloc ?_ _)); exact BK208.out) hb); have n5_ := Aside0.mk (below_step (by repeat (first | (with_reducible first | exact HB.out | apply below_alloc | apply pw_below_drewN | apply below_drew1 | refine below_set ?_ GE176.out | refine below_set ?_ GE177.out | refine below_set ?_ GE184.out | refine below_set ?_ GE196.out | refine below_set ?_ GE208.out) | exact HB.out)) hb); clear BK176; clear BK177; clear BK184; clear BK196; clear BK208; clear HB; have BK176 := n0_; have BK177 := n1_; have BK184 := n2_; have BK196 := n3_; have BK208 := n4_; have HB := n5_; clear n0_ n1_ n2_ n3_ n4_ n5_; (try clear hb); (try clear hb2); (try clear hk); (try clear hi); have hcz119_0 : w118.cell? ⟨gb208, 0, none⟩ = some (.int .i64 t203) := (blk_cell BK208.out 0).trans rfl; have hcz119_1 : w118.cell? ⟨gb208, 1, none⟩ = some (.int .u64 t204) := (blk_cell BK208.out 1).trans rfl; have hcz119_2 : w118.cell? ⟨gb208, 2, none⟩ = some (.int .u64 t205) := (blk_cell BK208.out 2).trans rfl; have hcz119_3 : w118.cell? ⟨gb208, 3, none⟩ = some (.int .i64 t206) := (blk_cell BK208.out 3).trans rfl; have hfz119_0 := blk_frozen BK208.out 0; have hfz119_1 := blk_frozen BK208.out 1; have hfz119_2 := blk_frozen BK208.out 2; have hfz119_3 := blk_frozen BK208.out 3) | ((with_reducible refine gate_callee (f := 11) rfl ?_); refine goesL_ (some 126) rfl rfl Tryd.func11 (by kernel_rfl) rfl #[.agg #[.int .i64 t203, .int .u64 t204, .int .u64 t205, .int .i64 t206]] rfl (by (try simp only [List.map_toArray, List.map_cons, List.map_nil]); first | done | rfl | (simp only [List.length_drop, List.length_take]; rfl)) ?_; (with_reducible refine (pauli_Weight.calls t203 t204 t205 t206 t213 t214 _ A94.out).mono ?_); rintro e w120 ⟨rfl, hb⟩; refine ⟨_, rfl, ?_⟩; have n0_ := Aside0.mk (blk_below (g := gb176) (o := .cells #[.int .i64 a0_0, .int .u64 a0_1, .int .u64 a0_2, .int .i64 a0_3] 26 (0, 0)) (by (with_reducible repeat (first | refine blk_drewN ?_ _ | refine blk_drew ?_ | refine blk_alloc ?_ _)); exact BK176.out) hb); have n1_ := Aside0.mk (blk_below (g := gb177) (o := .cells #[.int .i64 a1_0, .int .u64 a1_1, .int .u64 a1_2, .int .i64 a1_3] 26 (0, 0)) (by (with_reducible repeat (first | refine blk_drewN ?_ _ | refine blk_drew ?_ | refine blk_alloc ?_ _)); exact BK177.out) hb); have n2_ := Aside0.mk (blk_below (g := gb184) (o := .cells #[.int .i64 t179, .int .u64 t180, .int .u64 t181, .int .i64 t182] 26 (0, 0)) (by (with_reducible repeat (first | refine blk_drewN ?_ _ | refine blk_drew ?_ | refine blk_alloc ?_ _)); exact BK184.out) hb); have n3_ := Aside0.mk (blk_below (g := gb196) (o := .cells #[.int .i64 t191, .int .u64 t192, .int .u64 t193, .int .i64 t194] 26 (0, 0)) (by (with_reducible repeat (first | refine blk_drewN ?_ _ | refine blk_drew ?_ | refine blk_alloc ?_ _)); exact BK196.out) hb); have n4_ := Aside0.mk (blk_below (g := gb208) (o := .cells #[.int .i64 t203, .int .u64 t204, .int .u64 t205, .int .i64 t206] 26 (0, 0)) (by (with_reducible repeat (first | refine blk_drewN ?_ _ | refine blk_drew ?_ | refine blk_alloc ?_ _)); exact BK208.out) hb); have n5_ := Aside0.mk (below_step (by repeat (first | (with_reducible first | exact HB.out | apply below_alloc | apply pw_below_drewN | apply below_drew1 | refine below_set ?_ GE176.out | refine below_set ?_ GE177.out | refine below_set ?_ GE184.out | refine below_set ?_ GE196.out | refine below_set ?_ GE208.out) | exact HB.out)) hb); clear BK176; clear BK177; clear BK184; clear BK196; clear BK208; clear HB; have BK176 := n0_; have BK177 := n1_; have BK184 := n2_; have BK196 := n3_; have BK208 := n4_; have HB := n5_; clear n0_ n1_ n2_ n3_ n4_ n5_; (try clear hb); (try clear hb2); (try clear hk); (try clear hi); have hcz121_0 : w120.cell? ⟨gb176, 0, none⟩ = some (.int .i64 a0_0) := (blk_cell BK176.out 0).trans rfl; have hcz121_1 : w120.cell? ⟨gb176, 1, none⟩ = some (.int .u64 a0_1) := (blk_cell BK176.out 1).trans rfl; have hcz121_2 : w120.cell? ⟨gb176, 2, none⟩ = some (.int .u64 a0_2) := (blk_cell BK176.out 2).trans rfl; have hcz121_3 : w120.cell? ⟨gb176, 3, none⟩ = some (.int .i64 a0_3) := (blk_cell BK176.out 3).trans rfl; have hfz121_0 := blk_frozen BK176.out 0; have hfz121_1 := blk_frozen BK176.out 1; have hfz121_2 := blk_frozen BK176.out 2; have hfz121_3 := blk_frozen BK176.out 3))
                                  go_ret
                                  exact ⟨by first | rfl | (simp [errW_none, errW_some] <;> rfl) | (simp [*, errW_none, errW_some] <;> rfl), by repeat (first | (with_reducible first | exact HB.out | apply below_alloc | apply pw_below_drewN | apply below_drew1 | refine below_set ?_ GE176.out | refine below_set ?_ GE177.out | refine below_set ?_ GE184.out | refine below_set ?_ GE196.out | refine below_set ?_ GE208.out) | exact HB.out)⟩
                                · rw [if_neg c100] at H
                                  have c100b0 : decide (t209 ≤ a0_0) = false := decide_eq_false c100
                                  clear c100
                                  exact absurd (HTRUE.out.symm.trans (Option.some.inj H).symm) (by decide)
                              · rw [if_neg c99] at H
                                have c99b0 : decide (t213 ≤ (wrap64 (t209 + t211))) = false := decide_eq_false c99
                                clear c99
                                exact absurd (HTRUE.out.symm.trans (Option.some.inj H).symm) (by decide)
                            · rw [if_neg c98] at H
                              have c98b0 : (t214 == 0) = false := beq_eq_false_iff_ne.mpr c98
                              have c98b1 : (t214 != 0) = true := bne_iff_ne.mpr c98
                              exact absurd (HTRUE.out.symm.trans (Option.some.inj H).symm) (by decide)
                          · rw [if_neg c97] at H
                            have c97b0 : (t212 == 0) = false := beq_eq_false_iff_ne.mpr c97
                            have c97b1 : (t212 != 0) = true := bne_iff_ne.mpr c97
                            exact absurd (HTRUE.out.symm.trans (Option.some.inj H).symm) (by decide)
                        · rw [if_neg c96] at H
                          have c96b0 : (t210 == 0) = false := beq_eq_false_iff_ne.mpr c96
                          have c96b1 : (t210 != 0) = true := bne_iff_ne.mpr c96
                          exact absurd (HTRUE.out.symm.trans (Option.some.inj H).symm) (by decide)
                      · rw [if_neg c95] at H
                        have c95b0 : (t207 == 0) = false := beq_eq_false_iff_ne.mpr c95
                        have c95b1 : (t207 != 0) = true := bne_iff_ne.mpr c95
                        exact absurd (HTRUE.out.symm.trans (Option.some.inj H).symm) (by decide)
                    · rw [if_neg c90] at H
                      have c90b0 : (a0_0 == a1_0) = false := beq_eq_false_iff_ne.mpr c90
                      have c90b1 : (a0_0 != a1_0) = true := bne_iff_ne.mpr c90
                      replace H := Option.bind_eq_some_iff.mp H
                      obtain ⟨⟨t197, t198, t199, t200, t201⟩, A1220, H⟩ := H
                      replace H : (some (t201 == 2)) = some r := H
                      have A122 := Aside0.mk A1220
                      clear A1220
                      obtain rfl := Option.some.inj H
                      have hnb123 := NB176_177.out
                      have hnc123 := NB177_176.out
                      have hnb124 := NB176_184.out
                      have hnc124 := NB184_176.out
                      have hnb125 := NB176_196.out
                      have hnc125 := NB196_176.out
                      have hcz126_0 : wc.cell? ⟨gb176, 0, none⟩ = some (.int .i64 a0_0) := (blk_cell BK176.out 0).trans rfl
                      have hcz126_1 : wc.cell? ⟨gb176, 1, none⟩ = some (.int .u64 a0_1) := (blk_cell BK176.out 1).trans rfl
                      have hcz126_2 : wc.cell? ⟨gb176, 2, none⟩ = some (.int .u64 a0_2) := (blk_cell BK176.out 2).trans rfl
                      have hcz126_3 : wc.cell? ⟨gb176, 3, none⟩ = some (.int .i64 a0_3) := (blk_cell BK176.out 3).trans rfl
                      have hfz126_0 := blk_frozen BK176.out 0
                      have hfz126_1 := blk_frozen BK176.out 1
                      have hfz126_2 := blk_frozen BK176.out 2
                      have hfz126_3 := blk_frozen BK176.out 3
                      have hnb127 := NB177_184.out
                      have hnc127 := NB184_177.out
                      have hnb128 := NB177_196.out
                      have hnc128 := NB196_177.out
                      have hcz129_0 : wc.cell? ⟨gb177, 0, none⟩ = some (.int .i64 a1_0) := (blk_cell BK177.out 0).trans rfl
                      have hcz129_1 : wc.cell? ⟨gb177, 1, none⟩ = some (.int .u64 a1_1) := (blk_cell BK177.out 1).trans rfl
                      have hcz129_2 : wc.cell? ⟨gb177, 2, none⟩ = some (.int .u64 a1_2) := (blk_cell BK177.out 2).trans rfl
                      have hcz129_3 : wc.cell? ⟨gb177, 3, none⟩ = some (.int .i64 a1_3) := (blk_cell BK177.out 3).trans rfl
                      have hfz129_0 := blk_frozen BK177.out 0
                      have hfz129_1 := blk_frozen BK177.out 1
                      have hfz129_2 := blk_frozen BK177.out 2
                      have hfz129_3 := blk_frozen BK177.out 3
                      go_wp2_with (first | ((with_reducible refine gate_callee (f := 10) rfl ?_); refine goesL_ (some 103) rfl rfl Tryd.func10 (by kernel_rfl) rfl #[.agg #[.int .i64 a0_0, .int .u64 a0_1, .int .u64 a0_2, .int .i64 a0_3], .agg #[.int .i64 a1_0, .int .u64 a1_1, .int .u64 a1_2, .int .i64 a1_3]] rfl (by (try simp only [List.map_toArray, List.map_cons, List.map_nil]); first | done | rfl | (simp only [List.length_drop, List.length_take]; rfl)) ?_; (with_reducible refine (pauli_Mul.calls a0_0 a0_1 a0_2 a0_3 a1_0 a1_1 a1_2 a1_3 t197 t198 t199 t200 t201 _ A122.out).mono ?_); rintro e w130 ⟨rfl, hb⟩; refine ⟨_, rfl, ?_⟩; have n0_ := Aside0.mk (blk_below (g := gb176) (o := .cells #[.int .i64 a0_0, .int .u64 a0_1, .int .u64 a0_2, .int .i64 a0_3] 26 (0, 0)) (by (with_reducible repeat (first | refine blk_drewN ?_ _ | refine blk_drew ?_ | refine blk_alloc ?_ _)); exact BK176.out) hb); have n1_ := Aside0.mk (blk_below (g := gb177) (o := .cells #[.int .i64 a1_0, .int .u64 a1_1, .int .u64 a1_2, .int .i64 a1_3] 26 (0, 0)) (by (with_reducible repeat (first | refine blk_drewN ?_ _ | refine blk_drew ?_ | refine blk_alloc ?_ _)); exact BK177.out) hb); have n2_ := Aside0.mk (blk_below (g := gb184) (o := .cells #[.int .i64 t179, .int .u64 t180, .int .u64 t181, .int .i64 t182] 26 (0, 0)) (by (with_reducible repeat (first | refine blk_drewN ?_ _ | refine blk_drew ?_ | refine blk_alloc ?_ _)); exact BK184.out) hb); have n3_ := Aside0.mk (blk_below (g := gb196) (o := .cells #[.int .i64 t191, .int .u64 t192, .int .u64 t193, .int .i64 t194] 26 (0, 0)) (by (with_reducible repeat (first | refine blk_drewN ?_ _ | refine blk_drew ?_ | refine blk_alloc ?_ _)); exact BK196.out) hb); have n4_ := Aside0.mk (below_step (by repeat (first | (with_reducible first | exact HB.out | apply below_alloc | apply pw_below_drewN | apply below_drew1 | refine below_set ?_ GE176.out | refine below_set ?_ GE177.out | refine below_set ?_ GE184.out | refine below_set ?_ GE196.out) | exact HB.out)) hb); clear BK176; clear BK177; clear BK184; clear BK196; clear HB; have BK176 := n0_; have BK177 := n1_; have BK184 := n2_; have BK196 := n3_; have HB := n4_; clear n0_ n1_ n2_ n3_ n4_; (try clear hb); (try clear hb2); (try clear hk); (try clear hi)) | ((with_reducible refine gate_dst (N := 14) rfl ?_); (try (refine gate_guard (by rfl) ?_; dsimp only)); refine box_event ?hg (N := 14) ?hd (cs := #[.int .i64 0, .int .u64 0, .int .u64 0, .int .i64 0]) (t := 26) ?hr ?_; (case hd => rfl); (case hg => rfl); (case hr => first | (go_simp; done) | (go_simp; rfl)); intro gb202 hg w131 hbox hb; have n0_ := Aside0.mk (blk_below (g := gb176) (o := .cells #[.int .i64 a0_0, .int .u64 a0_1, .int .u64 a0_2, .int .i64 a0_3] 26 (0, 0)) (by (with_reducible repeat (first | refine blk_drewN ?_ _ | refine blk_drew ?_ | refine blk_alloc ?_ _)); exact BK176.out) hb); have n1_ := Aside0.mk (blk_below (g := gb177) (o := .cells #[.int .i64 a1_0, .int .u64 a1_1, .int .u64 a1_2, .int .i64 a1_3] 26 (0, 0)) (by (with_reducible repeat (first | refine blk_drewN ?_ _ | refine blk_drew ?_ | refine blk_alloc ?_ _)); exact BK177.out) hb); have n2_ := Aside0.mk (blk_below (g := gb184) (o := .cells #[.int .i64 t179, .int .u64 t180, .int .u64 t181, .int .i64 t182] 26 (0, 0)) (by (with_reducible repeat (first | refine blk_drewN ?_ _ | refine blk_drew ?_ | refine blk_alloc ?_ _)); exact BK184.out) hb); have n3_ := Aside0.mk (blk_below (g := gb196) (o := .cells #[.int .i64 t191, .int .u64 t192, .int .u64 t193, .int .i64 t194] 26 (0, 0)) (by (with_reducible repeat (first | refine blk_drewN ?_ _ | refine blk_drew ?_ | refine blk_alloc ?_ _)); exact BK196.out) hb); have n4_ := Aside0.mk (below_step (by repeat (first | (with_reducible first | exact HB.out | apply below_alloc | apply pw_below_drewN | apply below_drew1 | refine below_set ?_ GE176.out | refine below_set ?_ GE177.out | refine below_set ?_ GE184.out | refine below_set ?_ GE196.out) | exact HB.out)) hb); have n5_ := Aside0.mk (hbox); have n6_ := Aside0.mk ((by rw [hg]; exact (below_size (by repeat (first | (with_reducible first | exact HB.out | apply below_alloc | apply pw_below_drewN | apply below_drew1 | refine below_set ?_ GE176.out | refine below_set ?_ GE177.out | refine below_set ?_ GE184.out | refine below_set ?_ GE196.out) | exact HB.out))) : w.heap.size ≤ gb202)); have n7_ := Aside0.mk ((by rw [hg]; exact (below_size (by repeat (first | (with_reducible first | exact HB.out | apply below_alloc | apply pw_below_drewN | apply below_drew1 | refine below_set ?_ GE176.out | refine below_set ?_ GE177.out | refine below_set ?_ GE184.out | refine below_set ?_ GE196.out) | exact HB.out))) : w.heap.size ≤ gb202)); have n8_ := Aside0.mk ((by rw [hg]; exact Nat.ne_of_lt (blk_lt (g := gb176) (o := .cells #[.int .i64 a0_0, .int .u64 a0_1, .int .u64 a0_2, .int .i64 a0_3] 26 (0, 0)) (by (with_reducible repeat (first | refine blk_drewN ?_ _ | refine blk_drew ?_ | refine blk_alloc ?_ _)); exact BK176.out)) : gb176 ≠ gb202)); have n9_ := Aside0.mk ((by rw [hg]; exact Nat.ne_of_gt (blk_lt (g := gb176) (o := .cells #[.int .i64 a0_0, .int .u64 a0_1, .int .u64 a0_2, .int .i64 a0_3] 26 (0, 0)) (by (with_reducible repeat (first | refine blk_drewN ?_ _ | refine blk_drew ?_ | refine blk_alloc ?_ _)); exact BK176.out)) : gb202 ≠ gb176)); have n10_ := Aside0.mk ((by rw [hg]; exact Nat.ne_of_lt (blk_lt (g := gb177) (o := .cells #[.int .i64 a1_0, .int .u64 a1_1, .int .u64 a1_2, .int .i64 a1_3] 26 (0, 0)) (by (with_reducible repeat (first | refine blk_drewN ?_ _ | refine blk_drew ?_ | refine blk_alloc ?_ _)); exact BK177.out)) : gb177 ≠ gb202)); have n11_ := Aside0.mk ((by rw [hg]; exact Nat.ne_of_gt (blk_lt (g := gb177) (o := .cells #[.int .i64 a1_0, .int .u64 a1_1, .int .u64 a1_2, .int .i64 a1_3] 26 (0, 0)) (by (with_reducible repeat (first | refine blk_drewN ?_ _ | refine blk_drew ?_ | refine blk_alloc ?_ _)); exact BK177.out)) : gb202 ≠ gb177)); have n12_ := Aside0.mk ((by rw [hg]; exact Nat.ne_of_lt (blk_lt (g := gb184) (o := .cells #[.int .i64 t179, .int .u64 t180, .int .u64 t181, .int .i64 t182] 26 (0, 0)) (by (with_reducible repeat (first | refine blk_drewN ?_ _ | refine blk_drew ?_ | refine blk_alloc ?_ _)); exact BK184.out)) : gb184 ≠ gb202)); have n13_ := Aside0.mk ((by rw [hg]; exact Nat.ne_of_gt (blk_lt (g := gb184) (o := .cells #[.int .i64 t179, .int .u64 t180, .int .u64 t181, .int .i64 t182] 26 (0, 0)) (by (with_reducible repeat (first | refine blk_drewN ?_ _ | refine blk_drew ?_ | refine blk_alloc ?_ _)); exact BK184.out)) : gb202 ≠ gb184)); have n14_ := Aside0.mk ((by rw [hg]; exact Nat.ne_of_lt (blk_lt (g := gb196) (o := .cells #[.int .i64 t191, .int .u64 t192, .int .u64 t193, .int .i64 t194] 26 (0, 0)) (by (with_reducible repeat (first | refine blk_drewN ?_ _ | refine blk_drew ?_ | refine blk_alloc ?_ _)); exact BK196.out)) : gb196 ≠ gb202)); have n15_ := Aside0.mk ((by rw [hg]; exact Nat.ne_of_gt (blk_lt (g := gb196) (o := .cells #[.int .i64 t191, .int .u64 t192, .int .u64 t193, .int .i64 t194] 26 (0, 0)) (by (with_reducible repeat (first | refine blk_drewN ?_ _ | refine blk_drew ?_ | refine blk_alloc ?_ _)); exact BK196.out)) : gb202 ≠ gb196)); clear BK176; clear BK177; clear BK184; clear BK196; clear HB; have BK176 := n0_; have BK177 := n1_; have BK184 := n2_; have BK196 := n3_; have HB := n4_; have BK202 := n5_; have GW202 := n6_; have GE202 := n7_; have NB176_202 := n8_; have NB202_176 := n9_; have NB177_202 := n10_; have NB202_177 := n11_; have NB184_202 := n12_; have NB202_184 := n13_; have NB196_202 := n14_; have NB202_196 := n15_; clear n0_ n1_ n2_ n3_ n4_ n5_ n6_ n7_ n8_ n9_ n10_ n11_ n12_ n13_ n14_ n15_; clear hb hbox hg; have hnb132 := NB202_176.out; have hnc132 := NB176_202.out; have hnb133 := NB202_177.out; have hnc133 := NB177_202.out; have hnb134 := NB202_184.out; have hnc134 := NB184_202.out; have hnb135 := NB202_196.out; have hnc135 := NB196_202.out; have hcz136_0 : w131.cell? ⟨gb202, 0, none⟩ = some (.int .i64 0) := (blk_cell BK202.out 0).trans rfl; have hcz136_1 : w131.cell? ⟨gb202, 1, none⟩ = some (.int .u64 0) := (blk_cell BK202.out 1).trans rfl; have hcz136_2 : w131.cell? ⟨gb202, 2, none⟩ = some (.int .u64 0) := (blk_cell BK202.out 2).trans rfl; have hcz136_3 : w131.cell? ⟨gb202, 3, none⟩ = some (.int .i64 0) := (blk_cell BK202.out 3).trans rfl; have hfz136_0 := blk_frozen BK202.out 0; have hfz136_1 := blk_frozen BK202.out 1; have hfz136_2 := blk_frozen BK202.out 2; have hfz136_3 := blk_frozen BK202.out 3))
                      go_ret
                      exact ⟨by first | rfl | (simp [errW_none, errW_some] <;> rfl) | (simp [*, errW_none, errW_some] <;> rfl), by repeat (first | (with_reducible first | exact HB.out | apply below_alloc | apply pw_below_drewN | apply below_drew1 | refine below_set ?_ GE176.out | refine below_set ?_ GE177.out | refine below_set ?_ GE184.out | refine below_set ?_ GE196.out | refine below_set ?_ GE202.out) | exact HB.out)⟩
  · replace c5 := Bool.eq_false_iff.mpr c5
    subst c5
    have H1 : (some false) = some r := by rw [if_neg (show ¬ (false = true) by decide)] at H; exact H
    clear H
    have H := H1
    clear H1
    exact absurd (HTRUE.out.symm.trans (Option.some.inj H).symm) (by decide)

/-- THE ONE PURE STATEMENT of cubitlaw07_PauliTexts: yours. -/
def cubitlaw07_PauliTexts.Pure : Prop := ∀ (a0_0 : Int) (a0_1 : Int) (a0_2 : Int) (a0_3 : Int) (a1_0 : Int) (a1_1 : Int) (a1_2 : Int) (a1_3 : Int) (a2 : ByteArray), (Lit.int .i64 a0_0).wf = true → (Lit.int .u64 a0_1).wf = true → (Lit.int .u64 a0_2).wf = true → (Lit.int .i64 a0_3).wf = true → (Lit.int .i64 a1_0).wf = true → (Lit.int .u64 a1_1).wf = true → (Lit.int .u64 a1_2).wf = true → (Lit.int .i64 a1_3).wf = true → a2.size ≤ 140737488351232 → ∃ k, cubitlaw07_PauliTexts.f k a0_0 a0_1 a0_2 a0_3 a1_0 a1_1 a1_2 a1_3 a2 = some true
theorem cubitlaw07_PauliTexts.walk (P : cubitlaw07_PauliTexts.Pure) (a0_0 : Int) (a0_1 : Int) (a0_2 : Int) (a0_3 : Int) (a1_0 : Int) (a1_1 : Int) (a1_2 : Int) (a1_3 : Int) (a2 : ByteArray) (w : World) (w0_0 : (Lit.int .i64 a0_0).wf = true) (w0_1 : (Lit.int .u64 a0_1).wf = true) (w0_2 : (Lit.int .u64 a0_2).wf = true) (w0_3 : (Lit.int .i64 a0_3).wf = true) (w1_0 : (Lit.int .i64 a1_0).wf = true) (w1_1 : (Lit.int .u64 a1_1).wf = true) (w1_2 : (Lit.int .u64 a1_2).wf = true) (w1_3 : (Lit.int .i64 a1_3).wf = true) (w2 : a2.size ≤ 140737488351232) :
    Calls Tryd.prog 4 #[.agg #[.int .i64 a0_0, .int .u64 a0_1, .int .u64 a0_2, .int .i64 a0_3], .agg #[.int .i64 a1_0, .int .u64 a1_1, .int .u64 a1_2, .int .i64 a1_3], .string a2] w fun e w' => e = .returned (.bool true) ∧ Below w.heap.size w w' := by
  obtain ⟨k, h⟩ := P a0_0 a0_1 a0_2 a0_3 a1_0 a1_1 a1_2 a1_3 a2 w0_0 w0_1 w0_2 w0_3 w1_0 w1_1 w1_2 w1_3 w2
  refine (cubitlaw07_PauliTexts.calls k a0_0 a0_1 a0_2 a0_3 a1_0 a1_1 a1_2 a1_3 a2 true w h rfl).mono ?_
  rintro e w' ⟨rfl, hd⟩
  exact ⟨rfl, hd⟩

end Go.Proofs.YtechbhjdgfcgoaaDoor.PA
