/- pauli.Parse: what it answers for every string, over the contracts of strings.CutPrefix, TrimPrefix and Trim. -/
import Derived.Test.YtechbhjdgfcgoaaDoorGLibD
import Derived.Test.YtechbhjdgfcgoaaDoorWMore
import Derived.Test.YtechbhjdgfcgoaaDoorWLast
import Derived.Test.YtechbhjdgfcgoaaDoorWWords
import Derived.Test.YtechbhjdgfcgoaaDoorBitA
import Derived.WalkKit
import Derived.BigCall
import Derived.Lib.OthersKept
import Derived.Lib.Hide
namespace Go.Proofs.YtechbhjdgfcgoaaDoor.PA
open Go.RowKit Go.Proofs.YtechbhjdgfcgoaaDoorW.PrintWords Go.Proofs.YtechbhjdgfcgoaaDoorW.PrintLast Go.Proofs.YtechbhjdgfcgoaaDoorW.PrintMore
set_option linter.unusedVariables false
@[reducible] def Cuts (s p x : ByteArray) (m : Bool) : Prop := ∀ w, Calls Tryd.prog 14 #[.string s, .string p] w fun e w' => e = .returned (.tuple #[.string x, .bool m]) ∧ w' = w
@[reducible] def Trims (s p x : ByteArray) : Prop := ∀ w, Calls Tryd.prog 15 #[.string s, .string p] w fun e w' => e = .returned (.string x) ∧ w' = w
@[reducible] def Strips (s x : ByteArray) : Prop := ∀ w, Calls Tryd.prog 16 #[.string s, .string ⟨#[73, 88, 89, 90]⟩] w fun e w' => e = .returned (.string x) ∧ Below w.heap.size w w'
def ph (m1 m2 : Bool) : Int := if m1 then (if m2 then 3 else 2) else (if m2 then 1 else 0)
theorem bcell {W w1 : World} (hb : Below W.heap.size W w1) : (∀ b o, b < W.heap.size → w1.cell? ⟨b, o, none⟩ = W.cell? ⟨b, o, none⟩) ∧ (∀ b o, b < W.heap.size → w1.frozen? ⟨b, o, none⟩ = W.frozen? ⟨b, o, none⟩) :=
  ⟨fun b o h => hb.cell (p := ⟨b, o, none⟩) h, fun b o h => hb.frozen (p := ⟨b, o, none⟩) h⟩
/-- What the four ways to the letters have in common: the calls' answers. -/
structure Ways (m1 m2 : Bool) (s r t : ByteArray) : Prop where
  ok : ∃ x1 r1 x2, (m1 = true → x1 = r1) ∧ (m2 = true → x2 = r) ∧ (m2 = false → r1 = r) ∧ Cuts s ⟨#[45]⟩ x1 m1 ∧ (m1 = false → Trims s ⟨#[43]⟩ r1) ∧ Cuts r1 ⟨#[105]⟩ x2 m2 ∧ Strips r t
/-- A string's four fields in memory. -/
@[reducible] def Four (a b c d : Int) : Obj := .cells #[.int .i64 a, .int .u64 b, .int .u64 c, .int .i64 d] 26 (0, 0)
/-- The result's cells and the variable's, as they lie when the letters are asked. -/
def Start (w W : World) (v : Int) : Prop := W.heap[w.heap.size]? = some (Four 0 0 0 0) ∧ W.heap[w.heap.size + 1]? = some (Four 0 0 0 v) ∧ Below w.heap.size w W
theorem start0 (w : World) (v : Int) : Start w ((w.alloc (Four 0 0 0 0)).alloc (Four 0 0 0 v)) v := by
  refine ⟨blk_alloc (blk_new w _) _, ?_, below_alloc (below_alloc (Below.refl _ _) _) _⟩
  have := blk_new (w.alloc (Four 0 0 0 0)) (Four 0 0 0 v)
  simpa using this
theorem start_below {w W w1 : World} {v : Int} (h : Start w W v) (hb : Below W.heap.size W w1) : Start w w1 v :=
  ⟨blk_below h.1 hb, blk_below h.2.1 hb, below_then h.2.2 h.2.2.size hb⟩
theorem cells4 {w : World} {g : Nat} {a b c d : Int} (h : w.heap[g]? = some (Four a b c d)) :
    w.cell? ⟨g, 0, none⟩ = some (.int .i64 a) ∧ w.cell? ⟨g, 1, none⟩ = some (.int .u64 b) ∧ w.cell? ⟨g, 2, none⟩ = some (.int .u64 c) ∧ w.cell? ⟨g, 3, none⟩ = some (.int .i64 d) :=
  ⟨(blk_cell h 0).trans rfl, (blk_cell h 1).trans rfl, (blk_cell h 2).trans rfl, (blk_cell h 3).trans rfl⟩
theorem froz4 {w : World} {g : Nat} {a b c d : Int} (h : w.heap[g]? = some (Four a b c d)) :
    w.frozen? ⟨g, 0, none⟩ = false ∧ w.frozen? ⟨g, 1, none⟩ = false ∧ w.frozen? ⟨g, 2, none⟩ = false ∧ w.frozen? ⟨g, 3, none⟩ = false :=
  ⟨blk_frozen h 0, blk_frozen h 1, blk_frozen h 2, blk_frozen h 3⟩
theorem put4 {w : World} {g : Nat} {a b c d a' b' c' d' : Int} (h : w.heap[g]? = some (Four a b c d)) :
    ((((w.setCell ⟨g, 0, none⟩ (.int .i64 a')).setCell ⟨g, 1, none⟩ (.int .u64 b')).setCell ⟨g, 2, none⟩ (.int .u64 c')).setCell ⟨g, 3, none⟩ (.int .i64 d')).heap[g]? = some (Four a' b' c' d') :=
  blk_put (blk_put (blk_put (blk_put h 0 _ rfl) 1 _ rfl) 2 _ rfl) 3 _ rfl
theorem below4 {w W : World} {g : Nat} {a' b' c' d' : Value} (h : Below w.heap.size w W) (hg : w.heap.size ≤ g) :
    Below w.heap.size w ((((W.setCell ⟨g, 0, none⟩ a').setCell ⟨g, 1, none⟩ b').setCell ⟨g, 2, none⟩ c').setCell ⟨g, 3, none⟩ d') :=
  below_set (below_set (below_set (below_set h hg) hg) hg) hg
set_option maxHeartbeats 4000000 in
set_option maxRecDepth 1000000 in
theorem parse_bad (m1 m2 : Bool) (s r t : ByteArray) (w : World) (h : Ways m1 m2 s r t) (ht : t.toList ≠ []) :
    Calls Tryd.prog 7 #[.string s] w fun e w' => e = .returned (.tuple #[.agg #[.int .i64 0, .int .u64 0, .int .u64 0, .int .i64 0], .int .i64 70]) ∧ Below w.heap.size w w' := by
  have hu26 := Tryd.underlying26
  obtain ⟨⟨x1, r1, x2, h1, h2, h3, c1, c2, c3, c4⟩⟩ := h
  have T1 : t.toList.isEmpty = false := by cases h : t.toList with | nil => exact absurd h ht | cons _ _ => rfl
  clear ht
  cases m1 <;> cases m2
  · have C2 := Aside0.mk (c2 rfl)
    obtain rfl := h3 rfl
    clear h1 h2 h3 c2
    have C1 := Aside0.mk c1; clear c1
    have C3 := Aside0.mk c3; clear c3
    have C4 := Aside0.mk c4; clear c4
    go_enter Tryd.func7, Tryd.ntmps7
    go_wp2_with (first
      | (go_at_call 14; ((with_reducible refine (C1.out _).mono ?_); rintro e w' ⟨rfl, rfl⟩))
      | (go_at_call 15; ((with_reducible refine (C2.out _).mono ?_); rintro e w' ⟨rfl, rfl⟩))
      | (go_at_call 14; ((with_reducible refine (C3.out _).mono ?_); rintro e w' ⟨rfl, rfl⟩))
      | (go_at_call 16; ((with_reducible refine (C4.out _).mono ?_); rintro e w1 ⟨rfl, hb1⟩; obtain ⟨B0, B1, hb⟩ := start_below (start0 w _) hb1; clear hb1; obtain ⟨k0, k1, k2, k3⟩ := cells4 B0; obtain ⟨f0, f1, f2, f3⟩ := froz4 B0; have B0 := Aside0.mk B0; have B1 := Aside0.mk B1; have HB := Aside0.mk hb; clear hb)))
    have hP := put4 (a' := 0) (b' := 0) (c' := 0) (d' := 0) B0.out
    have hQ := below4 (a' := .int .i64 0) (b' := .int .u64 0) (c' := .int .u64 0) (d' := .int .i64 0) HB.out (Nat.le_refl _)
    revert hP hQ
    clear k0 k1 k2 k3 f0 f1 f2 f3
    generalize ((((w1.setCell ⟨w.heap.size, 0, none⟩ (.int .i64 0)).setCell ⟨w.heap.size, 1, none⟩ (.int .u64 0)).setCell ⟨w.heap.size, 2, none⟩ (.int .u64 0)).setCell ⟨w.heap.size, 3, none⟩ (.int .i64 0)) = W'
    intro hP hQ
    obtain ⟨k0, k1, k2, k3⟩ := cells4 hP
    refine bodyPost_ret (v := .tuple #[.agg #[.int .i64 0, .int .u64 0, .int .u64 0, .int .i64 0], .int .i64 70]) (by simp [results, Tryd.results7, go_sem, k0, k1, k2, k3]) rfl ⟨rfl, hQ⟩
  · have C2 := Aside0.mk (c2 rfl)
    obtain rfl := h2 rfl
    clear h1 h2 h3 c2
    have C1 := Aside0.mk c1; clear c1
    have C3 := Aside0.mk c3; clear c3
    have C4 := Aside0.mk c4; clear c4
    go_enter Tryd.func7, Tryd.ntmps7
    go_wp2_with (first
      | (go_at_call 14; ((with_reducible refine (C1.out _).mono ?_); rintro e w' ⟨rfl, rfl⟩))
      | (go_at_call 15; ((with_reducible refine (C2.out _).mono ?_); rintro e w' ⟨rfl, rfl⟩))
      | (go_at_call 14; ((with_reducible refine (C3.out _).mono ?_); rintro e w' ⟨rfl, rfl⟩))
      | (go_at_call 16; ((with_reducible refine (C4.out _).mono ?_); rintro e w1 ⟨rfl, hb1⟩; obtain ⟨B0, B1, hb⟩ := start_below (start0 w _) hb1; clear hb1; obtain ⟨k0, k1, k2, k3⟩ := cells4 B0; obtain ⟨f0, f1, f2, f3⟩ := froz4 B0; have B0 := Aside0.mk B0; have B1 := Aside0.mk B1; have HB := Aside0.mk hb; clear hb)))
    have hP := put4 (a' := 0) (b' := 0) (c' := 0) (d' := 0) B0.out
    have hQ := below4 (a' := .int .i64 0) (b' := .int .u64 0) (c' := .int .u64 0) (d' := .int .i64 0) HB.out (Nat.le_refl _)
    revert hP hQ
    clear k0 k1 k2 k3 f0 f1 f2 f3
    generalize ((((w1.setCell ⟨w.heap.size, 0, none⟩ (.int .i64 0)).setCell ⟨w.heap.size, 1, none⟩ (.int .u64 0)).setCell ⟨w.heap.size, 2, none⟩ (.int .u64 0)).setCell ⟨w.heap.size, 3, none⟩ (.int .i64 0)) = W'
    intro hP hQ
    obtain ⟨k0, k1, k2, k3⟩ := cells4 hP
    refine bodyPost_ret (v := .tuple #[.agg #[.int .i64 0, .int .u64 0, .int .u64 0, .int .i64 0], .int .i64 70]) (by simp [results, Tryd.results7, go_sem, k0, k1, k2, k3]) rfl ⟨rfl, hQ⟩
  · obtain rfl := h1 rfl
    obtain rfl := h3 rfl
    clear h1 h2 h3 c2
    have C1 := Aside0.mk c1; clear c1
    have C3 := Aside0.mk c3; clear c3
    have C4 := Aside0.mk c4; clear c4
    go_enter Tryd.func7, Tryd.ntmps7
    go_wp2_with (first
      | (go_at_call 14; ((with_reducible refine (C1.out _).mono ?_); rintro e w' ⟨rfl, rfl⟩))
      | (go_at_call 14; ((with_reducible refine (C3.out _).mono ?_); rintro e w' ⟨rfl, rfl⟩))
      | (go_at_call 16; ((with_reducible refine (C4.out _).mono ?_); rintro e w1 ⟨rfl, hb1⟩; obtain ⟨B0, B1, hb⟩ := start_below (start0 w _) hb1; clear hb1; obtain ⟨k0, k1, k2, k3⟩ := cells4 B0; obtain ⟨f0, f1, f2, f3⟩ := froz4 B0; have B0 := Aside0.mk B0; have B1 := Aside0.mk B1; have HB := Aside0.mk hb; clear hb)))
    have hP := put4 (a' := 0) (b' := 0) (c' := 0) (d' := 0) B0.out
    have hQ := below4 (a' := .int .i64 0) (b' := .int .u64 0) (c' := .int .u64 0) (d' := .int .i64 0) HB.out (Nat.le_refl _)
    revert hP hQ
    clear k0 k1 k2 k3 f0 f1 f2 f3
    generalize ((((w1.setCell ⟨w.heap.size, 0, none⟩ (.int .i64 0)).setCell ⟨w.heap.size, 1, none⟩ (.int .u64 0)).setCell ⟨w.heap.size, 2, none⟩ (.int .u64 0)).setCell ⟨w.heap.size, 3, none⟩ (.int .i64 0)) = W'
    intro hP hQ
    obtain ⟨k0, k1, k2, k3⟩ := cells4 hP
    refine bodyPost_ret (v := .tuple #[.agg #[.int .i64 0, .int .u64 0, .int .u64 0, .int .i64 0], .int .i64 70]) (by simp [results, Tryd.results7, go_sem, k0, k1, k2, k3]) rfl ⟨rfl, hQ⟩
  · obtain rfl := h1 rfl
    obtain rfl := h2 rfl
    clear h1 h2 h3 c2
    have C1 := Aside0.mk c1; clear c1
    have C3 := Aside0.mk c3; clear c3
    have C4 := Aside0.mk c4; clear c4
    go_enter Tryd.func7, Tryd.ntmps7
    go_wp2_with (first
      | (go_at_call 14; ((with_reducible refine (C1.out _).mono ?_); rintro e w' ⟨rfl, rfl⟩))
      | (go_at_call 14; ((with_reducible refine (C3.out _).mono ?_); rintro e w' ⟨rfl, rfl⟩))
      | (go_at_call 16; ((with_reducible refine (C4.out _).mono ?_); rintro e w1 ⟨rfl, hb1⟩; obtain ⟨B0, B1, hb⟩ := start_below (start0 w _) hb1; clear hb1; obtain ⟨k0, k1, k2, k3⟩ := cells4 B0; obtain ⟨f0, f1, f2, f3⟩ := froz4 B0; have B0 := Aside0.mk B0; have B1 := Aside0.mk B1; have HB := Aside0.mk hb; clear hb)))
    have hP := put4 (a' := 0) (b' := 0) (c' := 0) (d' := 0) B0.out
    have hQ := below4 (a' := .int .i64 0) (b' := .int .u64 0) (c' := .int .u64 0) (d' := .int .i64 0) HB.out (Nat.le_refl _)
    revert hP hQ
    clear k0 k1 k2 k3 f0 f1 f2 f3
    generalize ((((w1.setCell ⟨w.heap.size, 0, none⟩ (.int .i64 0)).setCell ⟨w.heap.size, 1, none⟩ (.int .u64 0)).setCell ⟨w.heap.size, 2, none⟩ (.int .u64 0)).setCell ⟨w.heap.size, 3, none⟩ (.int .i64 0)) = W'
    intro hP hQ
    obtain ⟨k0, k1, k2, k3⟩ := cells4 hP
    refine bodyPost_ret (v := .tuple #[.agg #[.int .i64 0, .int .u64 0, .int .u64 0, .int .i64 0], .int .i64 70]) (by simp [results, Tryd.results7, go_sem, k0, k1, k2, k3]) rfl ⟨rfl, hQ⟩
set_option maxHeartbeats 4000000 in
set_option maxRecDepth 1000000 in
theorem parse_long (m1 m2 : Bool) (s r t : ByteArray) (w : World) (h : Ways m1 m2 s r t) (ht : t.toList = []) (hr : 64 < r.size) :
    Calls Tryd.prog 7 #[.string s] w fun e w' => e = .returned (.tuple #[.agg #[.int .i64 0, .int .u64 0, .int .u64 0, .int .i64 0], .int .i64 1]) ∧ Below w.heap.size w w' := by
  have hu26 := Tryd.underlying26
  obtain ⟨⟨x1, r1, x2, h1, h2, h3, c1, c2, c3, c4⟩⟩ := h
  have T1 : t.toList.isEmpty = true := by rw [ht]; rfl
  cases m1 <;> cases m2
  · have C2 := Aside0.mk (c2 rfl)
    obtain rfl := h3 rfl
    clear h1 h2 h3 c2
    have C1 := Aside0.mk c1; clear c1
    have C3 := Aside0.mk c3; clear c3
    have C4 := Aside0.mk c4; clear c4
    go_enter Tryd.func7, Tryd.ntmps7
    go_wp2_with (first
      | (go_at_call 14; ((with_reducible refine (C1.out _).mono ?_); rintro e w' ⟨rfl, rfl⟩))
      | (go_at_call 15; ((with_reducible refine (C2.out _).mono ?_); rintro e w' ⟨rfl, rfl⟩))
      | (go_at_call 14; ((with_reducible refine (C3.out _).mono ?_); rintro e w' ⟨rfl, rfl⟩))
      | (go_at_call 16; ((with_reducible refine (C4.out _).mono ?_); rintro e w1 ⟨rfl, hb1⟩; obtain ⟨B0, B1, hb⟩ := start_below (start0 w _) hb1; clear hb1; obtain ⟨k0, k1, k2, k3⟩ := cells4 B0; obtain ⟨f0, f1, f2, f3⟩ := froz4 B0; have B0 := Aside0.mk B0; have B1 := Aside0.mk B1; have HB := Aside0.mk hb; clear hb)))
    have hP := put4 (a' := 0) (b' := 0) (c' := 0) (d' := 0) B0.out
    have hQ := below4 (a' := .int .i64 0) (b' := .int .u64 0) (c' := .int .u64 0) (d' := .int .i64 0) HB.out (Nat.le_refl _)
    revert hP hQ
    clear k0 k1 k2 k3 f0 f1 f2 f3
    generalize ((((w1.setCell ⟨w.heap.size, 0, none⟩ (.int .i64 0)).setCell ⟨w.heap.size, 1, none⟩ (.int .u64 0)).setCell ⟨w.heap.size, 2, none⟩ (.int .u64 0)).setCell ⟨w.heap.size, 3, none⟩ (.int .i64 0)) = W'
    intro hP hQ
    obtain ⟨k0, k1, k2, k3⟩ := cells4 hP
    refine bodyPost_ret (v := .tuple #[.agg #[.int .i64 0, .int .u64 0, .int .u64 0, .int .i64 0], .int .i64 1]) (by simp [results, Tryd.results7, go_sem, k0, k1, k2, k3]) rfl ⟨rfl, hQ⟩
  · have C2 := Aside0.mk (c2 rfl)
    obtain rfl := h2 rfl
    clear h1 h2 h3 c2
    have C1 := Aside0.mk c1; clear c1
    have C3 := Aside0.mk c3; clear c3
    have C4 := Aside0.mk c4; clear c4
    go_enter Tryd.func7, Tryd.ntmps7
    go_wp2_with (first
      | (go_at_call 14; ((with_reducible refine (C1.out _).mono ?_); rintro e w' ⟨rfl, rfl⟩))
      | (go_at_call 15; ((with_reducible refine (C2.out _).mono ?_); rintro e w' ⟨rfl, rfl⟩))
      | (go_at_call 14; ((with_reducible refine (C3.out _).mono ?_); rintro e w' ⟨rfl, rfl⟩))
      | (go_at_call 16; ((with_reducible refine (C4.out _).mono ?_); rintro e w1 ⟨rfl, hb1⟩; obtain ⟨B0, B1, hb⟩ := start_below (start0 w _) hb1; clear hb1; obtain ⟨k0, k1, k2, k3⟩ := cells4 B0; obtain ⟨f0, f1, f2, f3⟩ := froz4 B0; have B0 := Aside0.mk B0; have B1 := Aside0.mk B1; have HB := Aside0.mk hb; clear hb)))
    have hP := put4 (a' := 0) (b' := 0) (c' := 0) (d' := 0) B0.out
    have hQ := below4 (a' := .int .i64 0) (b' := .int .u64 0) (c' := .int .u64 0) (d' := .int .i64 0) HB.out (Nat.le_refl _)
    revert hP hQ
    clear k0 k1 k2 k3 f0 f1 f2 f3
    generalize ((((w1.setCell ⟨w.heap.size, 0, none⟩ (.int .i64 0)).setCell ⟨w.heap.size, 1, none⟩ (.int .u64 0)).setCell ⟨w.heap.size, 2, none⟩ (.int .u64 0)).setCell ⟨w.heap.size, 3, none⟩ (.int .i64 0)) = W'
    intro hP hQ
    obtain ⟨k0, k1, k2, k3⟩ := cells4 hP
    refine bodyPost_ret (v := .tuple #[.agg #[.int .i64 0, .int .u64 0, .int .u64 0, .int .i64 0], .int .i64 1]) (by simp [results, Tryd.results7, go_sem, k0, k1, k2, k3]) rfl ⟨rfl, hQ⟩
  · obtain rfl := h1 rfl
    obtain rfl := h3 rfl
    clear h1 h2 h3 c2
    have C1 := Aside0.mk c1; clear c1
    have C3 := Aside0.mk c3; clear c3
    have C4 := Aside0.mk c4; clear c4
    go_enter Tryd.func7, Tryd.ntmps7
    go_wp2_with (first
      | (go_at_call 14; ((with_reducible refine (C1.out _).mono ?_); rintro e w' ⟨rfl, rfl⟩))
      | (go_at_call 14; ((with_reducible refine (C3.out _).mono ?_); rintro e w' ⟨rfl, rfl⟩))
      | (go_at_call 16; ((with_reducible refine (C4.out _).mono ?_); rintro e w1 ⟨rfl, hb1⟩; obtain ⟨B0, B1, hb⟩ := start_below (start0 w _) hb1; clear hb1; obtain ⟨k0, k1, k2, k3⟩ := cells4 B0; obtain ⟨f0, f1, f2, f3⟩ := froz4 B0; have B0 := Aside0.mk B0; have B1 := Aside0.mk B1; have HB := Aside0.mk hb; clear hb)))
    have hP := put4 (a' := 0) (b' := 0) (c' := 0) (d' := 0) B0.out
    have hQ := below4 (a' := .int .i64 0) (b' := .int .u64 0) (c' := .int .u64 0) (d' := .int .i64 0) HB.out (Nat.le_refl _)
    revert hP hQ
    clear k0 k1 k2 k3 f0 f1 f2 f3
    generalize ((((w1.setCell ⟨w.heap.size, 0, none⟩ (.int .i64 0)).setCell ⟨w.heap.size, 1, none⟩ (.int .u64 0)).setCell ⟨w.heap.size, 2, none⟩ (.int .u64 0)).setCell ⟨w.heap.size, 3, none⟩ (.int .i64 0)) = W'
    intro hP hQ
    obtain ⟨k0, k1, k2, k3⟩ := cells4 hP
    refine bodyPost_ret (v := .tuple #[.agg #[.int .i64 0, .int .u64 0, .int .u64 0, .int .i64 0], .int .i64 1]) (by simp [results, Tryd.results7, go_sem, k0, k1, k2, k3]) rfl ⟨rfl, hQ⟩
  · obtain rfl := h1 rfl
    obtain rfl := h2 rfl
    clear h1 h2 h3 c2
    have C1 := Aside0.mk c1; clear c1
    have C3 := Aside0.mk c3; clear c3
    have C4 := Aside0.mk c4; clear c4
    go_enter Tryd.func7, Tryd.ntmps7
    go_wp2_with (first
      | (go_at_call 14; ((with_reducible refine (C1.out _).mono ?_); rintro e w' ⟨rfl, rfl⟩))
      | (go_at_call 14; ((with_reducible refine (C3.out _).mono ?_); rintro e w' ⟨rfl, rfl⟩))
      | (go_at_call 16; ((with_reducible refine (C4.out _).mono ?_); rintro e w1 ⟨rfl, hb1⟩; obtain ⟨B0, B1, hb⟩ := start_below (start0 w _) hb1; clear hb1; obtain ⟨k0, k1, k2, k3⟩ := cells4 B0; obtain ⟨f0, f1, f2, f3⟩ := froz4 B0; have B0 := Aside0.mk B0; have B1 := Aside0.mk B1; have HB := Aside0.mk hb; clear hb)))
    have hP := put4 (a' := 0) (b' := 0) (c' := 0) (d' := 0) B0.out
    have hQ := below4 (a' := .int .i64 0) (b' := .int .u64 0) (c' := .int .u64 0) (d' := .int .i64 0) HB.out (Nat.le_refl _)
    revert hP hQ
    clear k0 k1 k2 k3 f0 f1 f2 f3
    generalize ((((w1.setCell ⟨w.heap.size, 0, none⟩ (.int .i64 0)).setCell ⟨w.heap.size, 1, none⟩ (.int .u64 0)).setCell ⟨w.heap.size, 2, none⟩ (.int .u64 0)).setCell ⟨w.heap.size, 3, none⟩ (.int .i64 0)) = W'
    intro hP hQ
    obtain ⟨k0, k1, k2, k3⟩ := cells4 hP
    refine bodyPost_ret (v := .tuple #[.agg #[.int .i64 0, .int .u64 0, .int .u64 0, .int .i64 0], .int .i64 1]) (by simp [results, Tryd.results7, go_sem, k0, k1, k2, k3]) rfl ⟨rfl, hQ⟩
/-- The letters' bits, the first letter's the highest. -/
def bitsOf (a b : UInt8) : List UInt8 → Nat → Nat
  | [], v => v
  | c :: l, v => bitsOf a b l (2 * v + if c = a ∨ c = b then 1 else 0)
theorem bitsOf_app (a b : UInt8) : ∀ (l m : List UInt8) (v : Nat), bitsOf a b (l ++ m) v = bitsOf a b m (bitsOf a b l v)
  | [], _, _ => rfl
  | _ :: l, m, v => bitsOf_app a b l m _
theorem bitsOf_lt (a b : UInt8) : ∀ (l : List UInt8) (v k : Nat), v < 2 ^ k → bitsOf a b l v < 2 ^ (k + l.length)
  | [], v, k, h => h
  | c :: l, v, k, h => by
    have := bitsOf_lt a b l (2 * v + if c = a ∨ c = b then 1 else 0) (k + 1) (by rw [Nat.pow_succ]; split <;> omega)
    rw [List.length_cons, show k + (l.length + 1) = k + 1 + l.length by omega]
    exact this
theorem take_snoc (s : ByteArray) (k : Nat) (h : k < s.size) : s.data.toList.take (k + 1) = s.data.toList.take k ++ [s[k]] := by
  rw [List.take_succ_eq_append_getElem (by simpa using h)]; rfl
theorem bitsOf_snoc (a b : UInt8) (s : ByteArray) (k : Nat) (h : k < s.size) : bitsOf a b (s.data.toList.take (k + 1)) 0 = 2 * bitsOf a b (s.data.toList.take k) 0 + if s[k] = a ∨ s[k] = b then 1 else 0 := by
  rw [take_snoc s k h, bitsOf_app]; rfl
def Letter (c : UInt8) : Prop := c = 73 ∨ c = 88 ∨ c = 89 ∨ c = 90
/-- What stands between two rounds. -/
def Mid (w : World) (r : ByteArray) (B : Nat) (v : Int) (wr : World) : Prop := ∃ (pos : Nat), pos ≤ r.size ∧ wr.heap[w.heap.size]? = some (Four 0 0 0 0) ∧ wr.heap[w.heap.size + 1]? = some (Four (pos : Int) (bitsOf 88 89 (r.data.toList.take pos) 0 : Nat) (bitsOf 90 89 (r.data.toList.take pos) 0 : Nat) v) ∧ wr.heap[B]? = some (.stringIter r pos) ∧ Below w.heap.size w wr
theorem iter_kept {w : World} {g k : Nat} {t : TypeId} {cs : Array Value} {s : ByteArray} {p : Nat} (h : w.heap[g]? = some (.cells cs t (0, 0))) (hk : w.heap[k]? = some (.stringIter s p)) (p' : Nat) : g ≠ k ∧ (w.iterAt k s p').heap[g]? = some (.cells cs t (0, 0)) := by
  have hne : g ≠ k := by rintro rfl; rw [h] at hk; cases hk
  exact ⟨hne, (Lib.iterAt_other w k g s p' hne).trans h⟩
theorem far_obj {w : World} {g : Nat} {o : Obj} (h : w.heap[g]? = some o) {p : Addr} (hp : g ≠ p.block) (u : Value) : (w.setCell p u).heap[g]? = some o := (Below.heap_setCell w p u g hp).trans h
theorem mid_end {w wr W3 : World} {r : ByteArray} {B pos : Nat} {v a b c : Int} (hp : pos < r.size) (hit : wr.heap[B]? = some (.stringIter r pos)) (hA : W3.heap[w.heap.size]? = some (Four 0 0 0 0)) (hB : W3.heap[w.heap.size + 1]? = some (Four a b c v)) (hI : W3.heap[B]? = some (.stringIter r (pos + 1))) (hb : Below w.heap.size w W3)
    (ea : a = (pos : Int) + 1) (eb : b = ((2 * bitsOf 88 89 (r.data.toList.take pos) 0 + (if r[pos] = 88 ∨ r[pos] = 89 then 1 else 0) : Nat) : Int)) (ec : c = ((2 * bitsOf 90 89 (r.data.toList.take pos) 0 + (if r[pos] = 90 ∨ r[pos] = 89 then 1 else 0) : Nat) : Int)) :
    Mid w r B v W3 ∧ r.size - W3.iterPos B < r.size - wr.iterPos B := by
  refine ⟨⟨pos + 1, by omega, hA, ?_, hI, hb⟩, ?_⟩
  · rw [bitsOf_snoc 88 89 r pos hp, bitsOf_snoc 90 89 r pos hp]
    subst ea; subst eb; subst ec
    exact hB
  · simp only [World.iterPos, hI, hit]
    omega
theorem wrapx {n : Nat} (h : n < 2 ^ 63) : (n : Int) * 2 = ((2 * n : Nat) : Int) := by omega
theorem or1 {n : Nat} (h : n < 2 ^ 63) : bits BinOp.or IntKind.u64 ((n : Int) * 2) 1 = ((2 * n + 1 : Nat) : Int) := by
  rw [wrapx h]
  have := @B.or_u (2 * n) 1 (by omega) (by decide)
  rw [show ((1 : Nat) : Int) = 1 from rfl] at this
  rw [this]
  congr 1
  have h2 := Nat.two_pow_add_eq_or_of_lt (i := 1) (b := 1) (by decide) n
  rw [show 2 ^ 1 * n = 2 * n by omega] at h2
  exact h2.symm
theorem lt63 (a b : UInt8) (r : ByteArray) (pos : Nat) (h : pos < 64) : bitsOf a b (r.data.toList.take pos) 0 < 2 ^ 63 := by
  have h1 := bitsOf_lt a b (r.data.toList.take pos) 0 0 (by decide)
  have h2 : (r.data.toList.take pos).length ≤ pos := List.length_take_le _ _
  exact Nat.lt_of_lt_of_le h1 (Nat.pow_le_pow_right (by decide) (by omega))
set_option maxHeartbeats 4000000 in
set_option maxRecDepth 1000000 in
theorem parse_ok (m1 m2 : Bool) (s r t : ByteArray) (w : World) (h : Ways m1 m2 s r t) (ht : t.toList = []) (hs : r.size ≤ 64) (hr : ∀ c ∈ r.data.toList, Letter c) :
    Calls Tryd.prog 7 #[.string s] w fun e w' => e = .returned (.tuple #[.agg #[.int .i64 r.size, .int .u64 (bitsOf 88 89 r.data.toList 0 : Nat), .int .u64 (bitsOf 90 89 r.data.toList 0 : Nat), .int .i64 (ph m1 m2)], .int .i64 0]) ∧ Below w.heap.size w w' := by
  have hu26 := Tryd.underlying26
  obtain ⟨⟨x1, r1, x2, h1, h2, h3, c1, c2, c3, c4⟩⟩ := h
  have T1 : t.toList.isEmpty = true := by rw [ht]; rfl
  cases m1 <;> cases m2
  · have C2 := Aside0.mk (c2 rfl)
    obtain rfl := (h3 rfl).symm
    clear h1 h2 h3 c2
    have C1 := Aside0.mk c1; clear c1
    have C3 := Aside0.mk c3; clear c3
    have C4 := Aside0.mk c4; clear c4
    go_enter Tryd.func7, Tryd.ntmps7
    go_wp2_with (first
      | (go_at_call 14; ((with_reducible refine (C1.out _).mono ?_); rintro e w' ⟨rfl, rfl⟩))
      | (go_at_call 15; ((with_reducible refine (C2.out _).mono ?_); rintro e w' ⟨rfl, rfl⟩))
      | (go_at_call 14; ((with_reducible refine (C3.out _).mono ?_); rintro e w' ⟨rfl, rfl⟩))
      | (go_at_call 16; ((with_reducible refine (C4.out _).mono ?_); rintro e w1 ⟨rfl, hb1⟩; obtain ⟨B0, B1, hb⟩ := start_below (start0 w _) hb1; clear hb1; obtain ⟨k0, k1, k2, k3⟩ := cells4 B0; obtain ⟨f0, f1, f2, f3⟩ := froz4 B0; have B0 := Aside0.mk B0; have B1 := Aside0.mk B1; have HB := Aside0.mk hb; clear hb)))
    go_loopw [] (fun wr => Mid w r w1.heap.size 0 wr) (fun wr => r.size - wr.iterPos w1.heap.size)
    case atStart => exact ⟨0, Nat.zero_le _, blk_alloc B0.out _, blk_alloc B1.out _, World.iter_heap w1 r 0, below_alloc HB.out _⟩
    case round =>
      obtain ⟨pos, hpos, hA, hB, hit, hbw⟩ := hrel
      have hB := Aside0.mk hB
      have hA := Aside0.mk hA
      clear k0 k1 k2 k3 f0 f1 f2 f3
      by_cases hp : pos < r.size
      · have hl := hr r[pos] (List.getElem_mem (l := r.data.toList) (n := pos) (by simpa using hp))
        obtain ⟨hne1, hA2⟩ := iter_kept hA.out hit (pos + 1)
        obtain ⟨hne2, hB2⟩ := iter_kept hB.out hit (pos + 1)
        have hit2 := Lib.iterAt_heap wr w1.heap.size r pos (pos + 1) hit
        have hbw2 := Lib.below_iterAt hbw (k := w1.heap.size) (HB.out.size) r (pos + 1)
        obtain ⟨k0, k1, k2, k3⟩ := cells4 hB2
        obtain ⟨f0, f1, f2, f3⟩ := froz4 hB2
        have hx := lt63 88 89 r pos (by omega)
        have hz := lt63 90 89 r pos (by omega)
        rcases hl with hl | hl | hl | hl
        · have hnx : ∀ ty, (Instr.next (.pointer (some ⟨w1.heap.size, 0, none⟩)) true ty).run Tryd.prog wr = .ok (.tuple #[.bool true, .int .i64 pos, .int .i32 73]) (wr.iterAt w1.heap.size r (pos + 1)) := fun ty => by
            rw [Lib.run_next_ascii_at wr w1.heap.size r pos ty hit hp (by rw [hl]; decide), hl]; rfl
          go_wp2
          go_roundw
          case rel => exact (mid_end (a := (pos : Int) + 1) (b := ((bitsOf 88 89 (r.data.toList.take pos) 0 : Nat) : Int) * 2) (c := ((bitsOf 90 89 (r.data.toList.take pos) 0 : Nat) : Int) * 2) hp hit (blk_far (blk_far (blk_far (hA2) (by simp) _) (by simp) _) (by simp) _) (blk_put (blk_put (blk_put hB2 0 _ rfl) 1 _ rfl) 2 _ rfl) (far_obj (far_obj (far_obj (hit2) (Ne.symm hne2) _) (Ne.symm hne2) _) (Ne.symm hne2) _) (below_set (below_set (below_set (hbw2) (by omega)) (by omega)) (by omega)) rfl (by rw [hl]; exact wrapx hx) (by rw [hl]; exact wrapx hz)).1
          case measure => exact (mid_end (a := (pos : Int) + 1) (b := ((bitsOf 88 89 (r.data.toList.take pos) 0 : Nat) : Int) * 2) (c := ((bitsOf 90 89 (r.data.toList.take pos) 0 : Nat) : Int) * 2) hp hit (blk_far (blk_far (blk_far (hA2) (by simp) _) (by simp) _) (by simp) _) (blk_put (blk_put (blk_put hB2 0 _ rfl) 1 _ rfl) 2 _ rfl) (far_obj (far_obj (far_obj (hit2) (Ne.symm hne2) _) (Ne.symm hne2) _) (Ne.symm hne2) _) (below_set (below_set (below_set (hbw2) (by omega)) (by omega)) (by omega)) rfl (by rw [hl]; exact wrapx hx) (by rw [hl]; exact wrapx hz)).2
        · have hnx : ∀ ty, (Instr.next (.pointer (some ⟨w1.heap.size, 0, none⟩)) true ty).run Tryd.prog wr = .ok (.tuple #[.bool true, .int .i64 pos, .int .i32 88]) (wr.iterAt w1.heap.size r (pos + 1)) := fun ty => by
            rw [Lib.run_next_ascii_at wr w1.heap.size r pos ty hit hp (by rw [hl]; decide), hl]; rfl
          go_wp2
          go_roundw
          case rel => exact (mid_end (a := (pos : Int) + 1) (b := bits BinOp.or IntKind.u64 (((bitsOf 88 89 (r.data.toList.take pos) 0 : Nat) : Int) * 2) 1) (c := ((bitsOf 90 89 (r.data.toList.take pos) 0 : Nat) : Int) * 2) hp hit (blk_far (blk_far (blk_far (blk_far (hA2) (by simp) _) (by simp) _) (by simp) _) (by simp) _) (blk_put (blk_put (blk_put (blk_put hB2 0 _ rfl) 1 _ rfl) 2 _ rfl) 1 _ rfl) (far_obj (far_obj (far_obj (far_obj (hit2) (Ne.symm hne2) _) (Ne.symm hne2) _) (Ne.symm hne2) _) (Ne.symm hne2) _) (below_set (below_set (below_set (below_set (hbw2) (by omega)) (by omega)) (by omega)) (by omega)) rfl (by rw [hl]; exact or1 hx) (by rw [hl]; exact wrapx hz)).1
          case measure => exact (mid_end (a := (pos : Int) + 1) (b := bits BinOp.or IntKind.u64 (((bitsOf 88 89 (r.data.toList.take pos) 0 : Nat) : Int) * 2) 1) (c := ((bitsOf 90 89 (r.data.toList.take pos) 0 : Nat) : Int) * 2) hp hit (blk_far (blk_far (blk_far (blk_far (hA2) (by simp) _) (by simp) _) (by simp) _) (by simp) _) (blk_put (blk_put (blk_put (blk_put hB2 0 _ rfl) 1 _ rfl) 2 _ rfl) 1 _ rfl) (far_obj (far_obj (far_obj (far_obj (hit2) (Ne.symm hne2) _) (Ne.symm hne2) _) (Ne.symm hne2) _) (Ne.symm hne2) _) (below_set (below_set (below_set (below_set (hbw2) (by omega)) (by omega)) (by omega)) (by omega)) rfl (by rw [hl]; exact or1 hx) (by rw [hl]; exact wrapx hz)).2
        · have hnx : ∀ ty, (Instr.next (.pointer (some ⟨w1.heap.size, 0, none⟩)) true ty).run Tryd.prog wr = .ok (.tuple #[.bool true, .int .i64 pos, .int .i32 89]) (wr.iterAt w1.heap.size r (pos + 1)) := fun ty => by
            rw [Lib.run_next_ascii_at wr w1.heap.size r pos ty hit hp (by rw [hl]; decide), hl]; rfl
          go_wp2
          go_roundw
          case rel => exact (mid_end (a := (pos : Int) + 1) (b := bits BinOp.or IntKind.u64 (((bitsOf 88 89 (r.data.toList.take pos) 0 : Nat) : Int) * 2) 1) (c := bits BinOp.or IntKind.u64 (((bitsOf 90 89 (r.data.toList.take pos) 0 : Nat) : Int) * 2) 1) hp hit (blk_far (blk_far (blk_far (blk_far (blk_far (hA2) (by simp) _) (by simp) _) (by simp) _) (by simp) _) (by simp) _) (blk_put (blk_put (blk_put (blk_put (blk_put hB2 0 _ rfl) 1 _ rfl) 2 _ rfl) 1 _ rfl) 2 _ rfl) (far_obj (far_obj (far_obj (far_obj (far_obj (hit2) (Ne.symm hne2) _) (Ne.symm hne2) _) (Ne.symm hne2) _) (Ne.symm hne2) _) (Ne.symm hne2) _) (below_set (below_set (below_set (below_set (below_set (hbw2) (by omega)) (by omega)) (by omega)) (by omega)) (by omega)) rfl (by rw [hl]; exact or1 hx) (by rw [hl]; exact or1 hz)).1
          case measure => exact (mid_end (a := (pos : Int) + 1) (b := bits BinOp.or IntKind.u64 (((bitsOf 88 89 (r.data.toList.take pos) 0 : Nat) : Int) * 2) 1) (c := bits BinOp.or IntKind.u64 (((bitsOf 90 89 (r.data.toList.take pos) 0 : Nat) : Int) * 2) 1) hp hit (blk_far (blk_far (blk_far (blk_far (blk_far (hA2) (by simp) _) (by simp) _) (by simp) _) (by simp) _) (by simp) _) (blk_put (blk_put (blk_put (blk_put (blk_put hB2 0 _ rfl) 1 _ rfl) 2 _ rfl) 1 _ rfl) 2 _ rfl) (far_obj (far_obj (far_obj (far_obj (far_obj (hit2) (Ne.symm hne2) _) (Ne.symm hne2) _) (Ne.symm hne2) _) (Ne.symm hne2) _) (Ne.symm hne2) _) (below_set (below_set (below_set (below_set (below_set (hbw2) (by omega)) (by omega)) (by omega)) (by omega)) (by omega)) rfl (by rw [hl]; exact or1 hx) (by rw [hl]; exact or1 hz)).2
        · have hnx : ∀ ty, (Instr.next (.pointer (some ⟨w1.heap.size, 0, none⟩)) true ty).run Tryd.prog wr = .ok (.tuple #[.bool true, .int .i64 pos, .int .i32 90]) (wr.iterAt w1.heap.size r (pos + 1)) := fun ty => by
            rw [Lib.run_next_ascii_at wr w1.heap.size r pos ty hit hp (by rw [hl]; decide), hl]; rfl
          go_wp2
          go_roundw
          case rel => exact (mid_end (a := (pos : Int) + 1) (b := ((bitsOf 88 89 (r.data.toList.take pos) 0 : Nat) : Int) * 2) (c := bits BinOp.or IntKind.u64 (((bitsOf 90 89 (r.data.toList.take pos) 0 : Nat) : Int) * 2) 1) hp hit (blk_far (blk_far (blk_far (blk_far (hA2) (by simp) _) (by simp) _) (by simp) _) (by simp) _) (blk_put (blk_put (blk_put (blk_put hB2 0 _ rfl) 1 _ rfl) 2 _ rfl) 2 _ rfl) (far_obj (far_obj (far_obj (far_obj (hit2) (Ne.symm hne2) _) (Ne.symm hne2) _) (Ne.symm hne2) _) (Ne.symm hne2) _) (below_set (below_set (below_set (below_set (hbw2) (by omega)) (by omega)) (by omega)) (by omega)) rfl (by rw [hl]; exact wrapx hx) (by rw [hl]; exact or1 hz)).1
          case measure => exact (mid_end (a := (pos : Int) + 1) (b := ((bitsOf 88 89 (r.data.toList.take pos) 0 : Nat) : Int) * 2) (c := bits BinOp.or IntKind.u64 (((bitsOf 90 89 (r.data.toList.take pos) 0 : Nat) : Int) * 2) 1) hp hit (blk_far (blk_far (blk_far (blk_far (hA2) (by simp) _) (by simp) _) (by simp) _) (by simp) _) (blk_put (blk_put (blk_put (blk_put hB2 0 _ rfl) 1 _ rfl) 2 _ rfl) 2 _ rfl) (far_obj (far_obj (far_obj (far_obj (hit2) (Ne.symm hne2) _) (Ne.symm hne2) _) (Ne.symm hne2) _) (Ne.symm hne2) _) (below_set (below_set (below_set (below_set (hbw2) (by omega)) (by omega)) (by omega)) (by omega)) rfl (by rw [hl]; exact wrapx hx) (by rw [hl]; exact or1 hz)).2
      · obtain rfl : pos = r.size := by omega
        rw [List.take_of_length_le (show r.data.toList.length ≤ r.size from Nat.le_of_eq rfl)] at hB
        generalize eX : ((bitsOf 88 89 r.data.toList 0 : Nat) : Int) = X at hB
        generalize eZ : ((bitsOf 90 89 r.data.toList 0 : Nat) : Int) = Z at hB
        generalize eN : (r.size : Int) = N at hB
        have EX := Aside0.mk eX; clear eX
        have EZ := Aside0.mk eZ; clear eZ
        have EN := Aside0.mk eN; clear eN
        obtain ⟨k0, k1, k2, k3⟩ := cells4 hB.out
        obtain ⟨f0, f1, f2, f3⟩ := froz4 hB.out
        obtain ⟨l0, l1, l2, l3⟩ := cells4 hA.out
        obtain ⟨g0, g1, g2, g3⟩ := froz4 hA.out
        have hnx : ∀ ty, (Instr.next (.pointer (some ⟨w1.heap.size, 0, none⟩)) true ty).run Tryd.prog wr = _ := fun ty => Lib.run_next_end_at wr w1.heap.size r r.size ty hit hp
        go_wp2
        have hP := put4 (a' := N) (b' := X) (c' := Z) (d' := 0) hA.out
        have hQ := below4 (a' := .int .i64 N) (b' := .int .u64 X) (c' := .int .u64 Z) (d' := .int .i64 0) hbw (Nat.le_refl _)
        revert hP hQ
        clear k0 k1 k2 k3 f0 f1 f2 f3 l0 l1 l2 l3 g0 g1 g2 g3
        generalize ((((wr.setCell ⟨w.heap.size, 0, none⟩ (.int .i64 N)).setCell ⟨w.heap.size, 1, none⟩ (.int .u64 X)).setCell ⟨w.heap.size, 2, none⟩ (.int .u64 Z)).setCell ⟨w.heap.size, 3, none⟩ (.int .i64 0)) = W'
        intro hP hQ
        obtain ⟨k0, k1, k2, k3⟩ := cells4 hP
        refine bodyPost_ret (v := .tuple #[.agg #[.int .i64 N, .int .u64 X, .int .u64 Z, .int .i64 0], .int .i64 0]) (by simp [results, Tryd.results7, go_sem, k0, k1, k2, k3]) rfl ⟨by rw [EX.out, EZ.out, EN.out]; rfl, hQ⟩
  · have C2 := Aside0.mk (c2 rfl)
    obtain rfl := (h2 rfl).symm
    clear h1 h2 h3 c2
    have C1 := Aside0.mk c1; clear c1
    have C3 := Aside0.mk c3; clear c3
    have C4 := Aside0.mk c4; clear c4
    go_enter Tryd.func7, Tryd.ntmps7
    go_wp2_with (first
      | (go_at_call 14; ((with_reducible refine (C1.out _).mono ?_); rintro e w' ⟨rfl, rfl⟩))
      | (go_at_call 15; ((with_reducible refine (C2.out _).mono ?_); rintro e w' ⟨rfl, rfl⟩))
      | (go_at_call 14; ((with_reducible refine (C3.out _).mono ?_); rintro e w' ⟨rfl, rfl⟩))
      | (go_at_call 16; ((with_reducible refine (C4.out _).mono ?_); rintro e w1 ⟨rfl, hb1⟩; obtain ⟨B0, B1, hb⟩ := start_below (start0 w _) hb1; clear hb1; obtain ⟨k0, k1, k2, k3⟩ := cells4 B0; obtain ⟨f0, f1, f2, f3⟩ := froz4 B0; have B0 := Aside0.mk B0; have B1 := Aside0.mk B1; have HB := Aside0.mk hb; clear hb)))
    go_loopw [] (fun wr => Mid w r w1.heap.size 1 wr) (fun wr => r.size - wr.iterPos w1.heap.size)
    case atStart => exact ⟨0, Nat.zero_le _, blk_alloc B0.out _, blk_alloc B1.out _, World.iter_heap w1 r 0, below_alloc HB.out _⟩
    case round =>
      obtain ⟨pos, hpos, hA, hB, hit, hbw⟩ := hrel
      have hB := Aside0.mk hB
      have hA := Aside0.mk hA
      clear k0 k1 k2 k3 f0 f1 f2 f3
      by_cases hp : pos < r.size
      · have hl := hr r[pos] (List.getElem_mem (l := r.data.toList) (n := pos) (by simpa using hp))
        obtain ⟨hne1, hA2⟩ := iter_kept hA.out hit (pos + 1)
        obtain ⟨hne2, hB2⟩ := iter_kept hB.out hit (pos + 1)
        have hit2 := Lib.iterAt_heap wr w1.heap.size r pos (pos + 1) hit
        have hbw2 := Lib.below_iterAt hbw (k := w1.heap.size) (HB.out.size) r (pos + 1)
        obtain ⟨k0, k1, k2, k3⟩ := cells4 hB2
        obtain ⟨f0, f1, f2, f3⟩ := froz4 hB2
        have hx := lt63 88 89 r pos (by omega)
        have hz := lt63 90 89 r pos (by omega)
        rcases hl with hl | hl | hl | hl
        · have hnx : ∀ ty, (Instr.next (.pointer (some ⟨w1.heap.size, 0, none⟩)) true ty).run Tryd.prog wr = .ok (.tuple #[.bool true, .int .i64 pos, .int .i32 73]) (wr.iterAt w1.heap.size r (pos + 1)) := fun ty => by
            rw [Lib.run_next_ascii_at wr w1.heap.size r pos ty hit hp (by rw [hl]; decide), hl]; rfl
          go_wp2
          go_roundw
          case rel => exact (mid_end (a := (pos : Int) + 1) (b := ((bitsOf 88 89 (r.data.toList.take pos) 0 : Nat) : Int) * 2) (c := ((bitsOf 90 89 (r.data.toList.take pos) 0 : Nat) : Int) * 2) hp hit (blk_far (blk_far (blk_far (hA2) (by simp) _) (by simp) _) (by simp) _) (blk_put (blk_put (blk_put hB2 0 _ rfl) 1 _ rfl) 2 _ rfl) (far_obj (far_obj (far_obj (hit2) (Ne.symm hne2) _) (Ne.symm hne2) _) (Ne.symm hne2) _) (below_set (below_set (below_set (hbw2) (by omega)) (by omega)) (by omega)) rfl (by rw [hl]; exact wrapx hx) (by rw [hl]; exact wrapx hz)).1
          case measure => exact (mid_end (a := (pos : Int) + 1) (b := ((bitsOf 88 89 (r.data.toList.take pos) 0 : Nat) : Int) * 2) (c := ((bitsOf 90 89 (r.data.toList.take pos) 0 : Nat) : Int) * 2) hp hit (blk_far (blk_far (blk_far (hA2) (by simp) _) (by simp) _) (by simp) _) (blk_put (blk_put (blk_put hB2 0 _ rfl) 1 _ rfl) 2 _ rfl) (far_obj (far_obj (far_obj (hit2) (Ne.symm hne2) _) (Ne.symm hne2) _) (Ne.symm hne2) _) (below_set (below_set (below_set (hbw2) (by omega)) (by omega)) (by omega)) rfl (by rw [hl]; exact wrapx hx) (by rw [hl]; exact wrapx hz)).2
        · have hnx : ∀ ty, (Instr.next (.pointer (some ⟨w1.heap.size, 0, none⟩)) true ty).run Tryd.prog wr = .ok (.tuple #[.bool true, .int .i64 pos, .int .i32 88]) (wr.iterAt w1.heap.size r (pos + 1)) := fun ty => by
            rw [Lib.run_next_ascii_at wr w1.heap.size r pos ty hit hp (by rw [hl]; decide), hl]; rfl
          go_wp2
          go_roundw
          case rel => exact (mid_end (a := (pos : Int) + 1) (b := bits BinOp.or IntKind.u64 (((bitsOf 88 89 (r.data.toList.take pos) 0 : Nat) : Int) * 2) 1) (c := ((bitsOf 90 89 (r.data.toList.take pos) 0 : Nat) : Int) * 2) hp hit (blk_far (blk_far (blk_far (blk_far (hA2) (by simp) _) (by simp) _) (by simp) _) (by simp) _) (blk_put (blk_put (blk_put (blk_put hB2 0 _ rfl) 1 _ rfl) 2 _ rfl) 1 _ rfl) (far_obj (far_obj (far_obj (far_obj (hit2) (Ne.symm hne2) _) (Ne.symm hne2) _) (Ne.symm hne2) _) (Ne.symm hne2) _) (below_set (below_set (below_set (below_set (hbw2) (by omega)) (by omega)) (by omega)) (by omega)) rfl (by rw [hl]; exact or1 hx) (by rw [hl]; exact wrapx hz)).1
          case measure => exact (mid_end (a := (pos : Int) + 1) (b := bits BinOp.or IntKind.u64 (((bitsOf 88 89 (r.data.toList.take pos) 0 : Nat) : Int) * 2) 1) (c := ((bitsOf 90 89 (r.data.toList.take pos) 0 : Nat) : Int) * 2) hp hit (blk_far (blk_far (blk_far (blk_far (hA2) (by simp) _) (by simp) _) (by simp) _) (by simp) _) (blk_put (blk_put (blk_put (blk_put hB2 0 _ rfl) 1 _ rfl) 2 _ rfl) 1 _ rfl) (far_obj (far_obj (far_obj (far_obj (hit2) (Ne.symm hne2) _) (Ne.symm hne2) _) (Ne.symm hne2) _) (Ne.symm hne2) _) (below_set (below_set (below_set (below_set (hbw2) (by omega)) (by omega)) (by omega)) (by omega)) rfl (by rw [hl]; exact or1 hx) (by rw [hl]; exact wrapx hz)).2
        · have hnx : ∀ ty, (Instr.next (.pointer (some ⟨w1.heap.size, 0, none⟩)) true ty).run Tryd.prog wr = .ok (.tuple #[.bool true, .int .i64 pos, .int .i32 89]) (wr.iterAt w1.heap.size r (pos + 1)) := fun ty => by
            rw [Lib.run_next_ascii_at wr w1.heap.size r pos ty hit hp (by rw [hl]; decide), hl]; rfl
          go_wp2
          go_roundw
          case rel => exact (mid_end (a := (pos : Int) + 1) (b := bits BinOp.or IntKind.u64 (((bitsOf 88 89 (r.data.toList.take pos) 0 : Nat) : Int) * 2) 1) (c := bits BinOp.or IntKind.u64 (((bitsOf 90 89 (r.data.toList.take pos) 0 : Nat) : Int) * 2) 1) hp hit (blk_far (blk_far (blk_far (blk_far (blk_far (hA2) (by simp) _) (by simp) _) (by simp) _) (by simp) _) (by simp) _) (blk_put (blk_put (blk_put (blk_put (blk_put hB2 0 _ rfl) 1 _ rfl) 2 _ rfl) 1 _ rfl) 2 _ rfl) (far_obj (far_obj (far_obj (far_obj (far_obj (hit2) (Ne.symm hne2) _) (Ne.symm hne2) _) (Ne.symm hne2) _) (Ne.symm hne2) _) (Ne.symm hne2) _) (below_set (below_set (below_set (below_set (below_set (hbw2) (by omega)) (by omega)) (by omega)) (by omega)) (by omega)) rfl (by rw [hl]; exact or1 hx) (by rw [hl]; exact or1 hz)).1
          case measure => exact (mid_end (a := (pos : Int) + 1) (b := bits BinOp.or IntKind.u64 (((bitsOf 88 89 (r.data.toList.take pos) 0 : Nat) : Int) * 2) 1) (c := bits BinOp.or IntKind.u64 (((bitsOf 90 89 (r.data.toList.take pos) 0 : Nat) : Int) * 2) 1) hp hit (blk_far (blk_far (blk_far (blk_far (blk_far (hA2) (by simp) _) (by simp) _) (by simp) _) (by simp) _) (by simp) _) (blk_put (blk_put (blk_put (blk_put (blk_put hB2 0 _ rfl) 1 _ rfl) 2 _ rfl) 1 _ rfl) 2 _ rfl) (far_obj (far_obj (far_obj (far_obj (far_obj (hit2) (Ne.symm hne2) _) (Ne.symm hne2) _) (Ne.symm hne2) _) (Ne.symm hne2) _) (Ne.symm hne2) _) (below_set (below_set (below_set (below_set (below_set (hbw2) (by omega)) (by omega)) (by omega)) (by omega)) (by omega)) rfl (by rw [hl]; exact or1 hx) (by rw [hl]; exact or1 hz)).2
        · have hnx : ∀ ty, (Instr.next (.pointer (some ⟨w1.heap.size, 0, none⟩)) true ty).run Tryd.prog wr = .ok (.tuple #[.bool true, .int .i64 pos, .int .i32 90]) (wr.iterAt w1.heap.size r (pos + 1)) := fun ty => by
            rw [Lib.run_next_ascii_at wr w1.heap.size r pos ty hit hp (by rw [hl]; decide), hl]; rfl
          go_wp2
          go_roundw
          case rel => exact (mid_end (a := (pos : Int) + 1) (b := ((bitsOf 88 89 (r.data.toList.take pos) 0 : Nat) : Int) * 2) (c := bits BinOp.or IntKind.u64 (((bitsOf 90 89 (r.data.toList.take pos) 0 : Nat) : Int) * 2) 1) hp hit (blk_far (blk_far (blk_far (blk_far (hA2) (by simp) _) (by simp) _) (by simp) _) (by simp) _) (blk_put (blk_put (blk_put (blk_put hB2 0 _ rfl) 1 _ rfl) 2 _ rfl) 2 _ rfl) (far_obj (far_obj (far_obj (far_obj (hit2) (Ne.symm hne2) _) (Ne.symm hne2) _) (Ne.symm hne2) _) (Ne.symm hne2) _) (below_set (below_set (below_set (below_set (hbw2) (by omega)) (by omega)) (by omega)) (by omega)) rfl (by rw [hl]; exact wrapx hx) (by rw [hl]; exact or1 hz)).1
          case measure => exact (mid_end (a := (pos : Int) + 1) (b := ((bitsOf 88 89 (r.data.toList.take pos) 0 : Nat) : Int) * 2) (c := bits BinOp.or IntKind.u64 (((bitsOf 90 89 (r.data.toList.take pos) 0 : Nat) : Int) * 2) 1) hp hit (blk_far (blk_far (blk_far (blk_far (hA2) (by simp) _) (by simp) _) (by simp) _) (by simp) _) (blk_put (blk_put (blk_put (blk_put hB2 0 _ rfl) 1 _ rfl) 2 _ rfl) 2 _ rfl) (far_obj (far_obj (far_obj (far_obj (hit2) (Ne.symm hne2) _) (Ne.symm hne2) _) (Ne.symm hne2) _) (Ne.symm hne2) _) (below_set (below_set (below_set (below_set (hbw2) (by omega)) (by omega)) (by omega)) (by omega)) rfl (by rw [hl]; exact wrapx hx) (by rw [hl]; exact or1 hz)).2
      · obtain rfl : pos = r.size := by omega
        rw [List.take_of_length_le (show r.data.toList.length ≤ r.size from Nat.le_of_eq rfl)] at hB
        generalize eX : ((bitsOf 88 89 r.data.toList 0 : Nat) : Int) = X at hB
        generalize eZ : ((bitsOf 90 89 r.data.toList 0 : Nat) : Int) = Z at hB
        generalize eN : (r.size : Int) = N at hB
        have EX := Aside0.mk eX; clear eX
        have EZ := Aside0.mk eZ; clear eZ
        have EN := Aside0.mk eN; clear eN
        obtain ⟨k0, k1, k2, k3⟩ := cells4 hB.out
        obtain ⟨f0, f1, f2, f3⟩ := froz4 hB.out
        obtain ⟨l0, l1, l2, l3⟩ := cells4 hA.out
        obtain ⟨g0, g1, g2, g3⟩ := froz4 hA.out
        have hnx : ∀ ty, (Instr.next (.pointer (some ⟨w1.heap.size, 0, none⟩)) true ty).run Tryd.prog wr = _ := fun ty => Lib.run_next_end_at wr w1.heap.size r r.size ty hit hp
        go_wp2
        have hP := put4 (a' := N) (b' := X) (c' := Z) (d' := 1) hA.out
        have hQ := below4 (a' := .int .i64 N) (b' := .int .u64 X) (c' := .int .u64 Z) (d' := .int .i64 1) hbw (Nat.le_refl _)
        revert hP hQ
        clear k0 k1 k2 k3 f0 f1 f2 f3 l0 l1 l2 l3 g0 g1 g2 g3
        generalize ((((wr.setCell ⟨w.heap.size, 0, none⟩ (.int .i64 N)).setCell ⟨w.heap.size, 1, none⟩ (.int .u64 X)).setCell ⟨w.heap.size, 2, none⟩ (.int .u64 Z)).setCell ⟨w.heap.size, 3, none⟩ (.int .i64 1)) = W'
        intro hP hQ
        obtain ⟨k0, k1, k2, k3⟩ := cells4 hP
        refine bodyPost_ret (v := .tuple #[.agg #[.int .i64 N, .int .u64 X, .int .u64 Z, .int .i64 1], .int .i64 0]) (by simp [results, Tryd.results7, go_sem, k0, k1, k2, k3]) rfl ⟨by rw [EX.out, EZ.out, EN.out]; rfl, hQ⟩
  · obtain rfl := h1 rfl
    obtain rfl := (h3 rfl).symm
    clear h1 h2 h3 c2
    have C1 := Aside0.mk c1; clear c1
    have C3 := Aside0.mk c3; clear c3
    have C4 := Aside0.mk c4; clear c4
    go_enter Tryd.func7, Tryd.ntmps7
    go_wp2_with (first
      | (go_at_call 14; ((with_reducible refine (C1.out _).mono ?_); rintro e w' ⟨rfl, rfl⟩))
      | (go_at_call 14; ((with_reducible refine (C3.out _).mono ?_); rintro e w' ⟨rfl, rfl⟩))
      | (go_at_call 16; ((with_reducible refine (C4.out _).mono ?_); rintro e w1 ⟨rfl, hb1⟩; obtain ⟨B0, B1, hb⟩ := start_below (start0 w _) hb1; clear hb1; obtain ⟨k0, k1, k2, k3⟩ := cells4 B0; obtain ⟨f0, f1, f2, f3⟩ := froz4 B0; have B0 := Aside0.mk B0; have B1 := Aside0.mk B1; have HB := Aside0.mk hb; clear hb)))
    go_loopw [] (fun wr => Mid w r w1.heap.size 2 wr) (fun wr => r.size - wr.iterPos w1.heap.size)
    case atStart => exact ⟨0, Nat.zero_le _, blk_alloc B0.out _, blk_alloc B1.out _, World.iter_heap w1 r 0, below_alloc HB.out _⟩
    case round =>
      obtain ⟨pos, hpos, hA, hB, hit, hbw⟩ := hrel
      have hB := Aside0.mk hB
      have hA := Aside0.mk hA
      clear k0 k1 k2 k3 f0 f1 f2 f3
      by_cases hp : pos < r.size
      · have hl := hr r[pos] (List.getElem_mem (l := r.data.toList) (n := pos) (by simpa using hp))
        obtain ⟨hne1, hA2⟩ := iter_kept hA.out hit (pos + 1)
        obtain ⟨hne2, hB2⟩ := iter_kept hB.out hit (pos + 1)
        have hit2 := Lib.iterAt_heap wr w1.heap.size r pos (pos + 1) hit
        have hbw2 := Lib.below_iterAt hbw (k := w1.heap.size) (HB.out.size) r (pos + 1)
        obtain ⟨k0, k1, k2, k3⟩ := cells4 hB2
        obtain ⟨f0, f1, f2, f3⟩ := froz4 hB2
        have hx := lt63 88 89 r pos (by omega)
        have hz := lt63 90 89 r pos (by omega)
        rcases hl with hl | hl | hl | hl
        · have hnx : ∀ ty, (Instr.next (.pointer (some ⟨w1.heap.size, 0, none⟩)) true ty).run Tryd.prog wr = .ok (.tuple #[.bool true, .int .i64 pos, .int .i32 73]) (wr.iterAt w1.heap.size r (pos + 1)) := fun ty => by
            rw [Lib.run_next_ascii_at wr w1.heap.size r pos ty hit hp (by rw [hl]; decide), hl]; rfl
          go_wp2
          go_roundw
          case rel => exact (mid_end (a := (pos : Int) + 1) (b := ((bitsOf 88 89 (r.data.toList.take pos) 0 : Nat) : Int) * 2) (c := ((bitsOf 90 89 (r.data.toList.take pos) 0 : Nat) : Int) * 2) hp hit (blk_far (blk_far (blk_far (hA2) (by simp) _) (by simp) _) (by simp) _) (blk_put (blk_put (blk_put hB2 0 _ rfl) 1 _ rfl) 2 _ rfl) (far_obj (far_obj (far_obj (hit2) (Ne.symm hne2) _) (Ne.symm hne2) _) (Ne.symm hne2) _) (below_set (below_set (below_set (hbw2) (by omega)) (by omega)) (by omega)) rfl (by rw [hl]; exact wrapx hx) (by rw [hl]; exact wrapx hz)).1
          case measure => exact (mid_end (a := (pos : Int) + 1) (b := ((bitsOf 88 89 (r.data.toList.take pos) 0 : Nat) : Int) * 2) (c := ((bitsOf 90 89 (r.data.toList.take pos) 0 : Nat) : Int) * 2) hp hit (blk_far (blk_far (blk_far (hA2) (by simp) _) (by simp) _) (by simp) _) (blk_put (blk_put (blk_put hB2 0 _ rfl) 1 _ rfl) 2 _ rfl) (far_obj (far_obj (far_obj (hit2) (Ne.symm hne2) _) (Ne.symm hne2) _) (Ne.symm hne2) _) (below_set (below_set (below_set (hbw2) (by omega)) (by omega)) (by omega)) rfl (by rw [hl]; exact wrapx hx) (by rw [hl]; exact wrapx hz)).2
        · have hnx : ∀ ty, (Instr.next (.pointer (some ⟨w1.heap.size, 0, none⟩)) true ty).run Tryd.prog wr = .ok (.tuple #[.bool true, .int .i64 pos, .int .i32 88]) (wr.iterAt w1.heap.size r (pos + 1)) := fun ty => by
            rw [Lib.run_next_ascii_at wr w1.heap.size r pos ty hit hp (by rw [hl]; decide), hl]; rfl
          go_wp2
          go_roundw
          case rel => exact (mid_end (a := (pos : Int) + 1) (b := bits BinOp.or IntKind.u64 (((bitsOf 88 89 (r.data.toList.take pos) 0 : Nat) : Int) * 2) 1) (c := ((bitsOf 90 89 (r.data.toList.take pos) 0 : Nat) : Int) * 2) hp hit (blk_far (blk_far (blk_far (blk_far (hA2) (by simp) _) (by simp) _) (by simp) _) (by simp) _) (blk_put (blk_put (blk_put (blk_put hB2 0 _ rfl) 1 _ rfl) 2 _ rfl) 1 _ rfl) (far_obj (far_obj (far_obj (far_obj (hit2) (Ne.symm hne2) _) (Ne.symm hne2) _) (Ne.symm hne2) _) (Ne.symm hne2) _) (below_set (below_set (below_set (below_set (hbw2) (by omega)) (by omega)) (by omega)) (by omega)) rfl (by rw [hl]; exact or1 hx) (by rw [hl]; exact wrapx hz)).1
          case measure => exact (mid_end (a := (pos : Int) + 1) (b := bits BinOp.or IntKind.u64 (((bitsOf 88 89 (r.data.toList.take pos) 0 : Nat) : Int) * 2) 1) (c := ((bitsOf 90 89 (r.data.toList.take pos) 0 : Nat) : Int) * 2) hp hit (blk_far (blk_far (blk_far (blk_far (hA2) (by simp) _) (by simp) _) (by simp) _) (by simp) _) (blk_put (blk_put (blk_put (blk_put hB2 0 _ rfl) 1 _ rfl) 2 _ rfl) 1 _ rfl) (far_obj (far_obj (far_obj (far_obj (hit2) (Ne.symm hne2) _) (Ne.symm hne2) _) (Ne.symm hne2) _) (Ne.symm hne2) _) (below_set (below_set (below_set (below_set (hbw2) (by omega)) (by omega)) (by omega)) (by omega)) rfl (by rw [hl]; exact or1 hx) (by rw [hl]; exact wrapx hz)).2
        · have hnx : ∀ ty, (Instr.next (.pointer (some ⟨w1.heap.size, 0, none⟩)) true ty).run Tryd.prog wr = .ok (.tuple #[.bool true, .int .i64 pos, .int .i32 89]) (wr.iterAt w1.heap.size r (pos + 1)) := fun ty => by
            rw [Lib.run_next_ascii_at wr w1.heap.size r pos ty hit hp (by rw [hl]; decide), hl]; rfl
          go_wp2
          go_roundw
          case rel => exact (mid_end (a := (pos : Int) + 1) (b := bits BinOp.or IntKind.u64 (((bitsOf 88 89 (r.data.toList.take pos) 0 : Nat) : Int) * 2) 1) (c := bits BinOp.or IntKind.u64 (((bitsOf 90 89 (r.data.toList.take pos) 0 : Nat) : Int) * 2) 1) hp hit (blk_far (blk_far (blk_far (blk_far (blk_far (hA2) (by simp) _) (by simp) _) (by simp) _) (by simp) _) (by simp) _) (blk_put (blk_put (blk_put (blk_put (blk_put hB2 0 _ rfl) 1 _ rfl) 2 _ rfl) 1 _ rfl) 2 _ rfl) (far_obj (far_obj (far_obj (far_obj (far_obj (hit2) (Ne.symm hne2) _) (Ne.symm hne2) _) (Ne.symm hne2) _) (Ne.symm hne2) _) (Ne.symm hne2) _) (below_set (below_set (below_set (below_set (below_set (hbw2) (by omega)) (by omega)) (by omega)) (by omega)) (by omega)) rfl (by rw [hl]; exact or1 hx) (by rw [hl]; exact or1 hz)).1
          case measure => exact (mid_end (a := (pos : Int) + 1) (b := bits BinOp.or IntKind.u64 (((bitsOf 88 89 (r.data.toList.take pos) 0 : Nat) : Int) * 2) 1) (c := bits BinOp.or IntKind.u64 (((bitsOf 90 89 (r.data.toList.take pos) 0 : Nat) : Int) * 2) 1) hp hit (blk_far (blk_far (blk_far (blk_far (blk_far (hA2) (by simp) _) (by simp) _) (by simp) _) (by simp) _) (by simp) _) (blk_put (blk_put (blk_put (blk_put (blk_put hB2 0 _ rfl) 1 _ rfl) 2 _ rfl) 1 _ rfl) 2 _ rfl) (far_obj (far_obj (far_obj (far_obj (far_obj (hit2) (Ne.symm hne2) _) (Ne.symm hne2) _) (Ne.symm hne2) _) (Ne.symm hne2) _) (Ne.symm hne2) _) (below_set (below_set (below_set (below_set (below_set (hbw2) (by omega)) (by omega)) (by omega)) (by omega)) (by omega)) rfl (by rw [hl]; exact or1 hx) (by rw [hl]; exact or1 hz)).2
        · have hnx : ∀ ty, (Instr.next (.pointer (some ⟨w1.heap.size, 0, none⟩)) true ty).run Tryd.prog wr = .ok (.tuple #[.bool true, .int .i64 pos, .int .i32 90]) (wr.iterAt w1.heap.size r (pos + 1)) := fun ty => by
            rw [Lib.run_next_ascii_at wr w1.heap.size r pos ty hit hp (by rw [hl]; decide), hl]; rfl
          go_wp2
          go_roundw
          case rel => exact (mid_end (a := (pos : Int) + 1) (b := ((bitsOf 88 89 (r.data.toList.take pos) 0 : Nat) : Int) * 2) (c := bits BinOp.or IntKind.u64 (((bitsOf 90 89 (r.data.toList.take pos) 0 : Nat) : Int) * 2) 1) hp hit (blk_far (blk_far (blk_far (blk_far (hA2) (by simp) _) (by simp) _) (by simp) _) (by simp) _) (blk_put (blk_put (blk_put (blk_put hB2 0 _ rfl) 1 _ rfl) 2 _ rfl) 2 _ rfl) (far_obj (far_obj (far_obj (far_obj (hit2) (Ne.symm hne2) _) (Ne.symm hne2) _) (Ne.symm hne2) _) (Ne.symm hne2) _) (below_set (below_set (below_set (below_set (hbw2) (by omega)) (by omega)) (by omega)) (by omega)) rfl (by rw [hl]; exact wrapx hx) (by rw [hl]; exact or1 hz)).1
          case measure => exact (mid_end (a := (pos : Int) + 1) (b := ((bitsOf 88 89 (r.data.toList.take pos) 0 : Nat) : Int) * 2) (c := bits BinOp.or IntKind.u64 (((bitsOf 90 89 (r.data.toList.take pos) 0 : Nat) : Int) * 2) 1) hp hit (blk_far (blk_far (blk_far (blk_far (hA2) (by simp) _) (by simp) _) (by simp) _) (by simp) _) (blk_put (blk_put (blk_put (blk_put hB2 0 _ rfl) 1 _ rfl) 2 _ rfl) 2 _ rfl) (far_obj (far_obj (far_obj (far_obj (hit2) (Ne.symm hne2) _) (Ne.symm hne2) _) (Ne.symm hne2) _) (Ne.symm hne2) _) (below_set (below_set (below_set (below_set (hbw2) (by omega)) (by omega)) (by omega)) (by omega)) rfl (by rw [hl]; exact wrapx hx) (by rw [hl]; exact or1 hz)).2
      · obtain rfl : pos = r.size := by omega
        rw [List.take_of_length_le (show r.data.toList.length ≤ r.size from Nat.le_of_eq rfl)] at hB
        generalize eX : ((bitsOf 88 89 r.data.toList 0 : Nat) : Int) = X at hB
        generalize eZ : ((bitsOf 90 89 r.data.toList 0 : Nat) : Int) = Z at hB
        generalize eN : (r.size : Int) = N at hB
        have EX := Aside0.mk eX; clear eX
        have EZ := Aside0.mk eZ; clear eZ
        have EN := Aside0.mk eN; clear eN
        obtain ⟨k0, k1, k2, k3⟩ := cells4 hB.out
        obtain ⟨f0, f1, f2, f3⟩ := froz4 hB.out
        obtain ⟨l0, l1, l2, l3⟩ := cells4 hA.out
        obtain ⟨g0, g1, g2, g3⟩ := froz4 hA.out
        have hnx : ∀ ty, (Instr.next (.pointer (some ⟨w1.heap.size, 0, none⟩)) true ty).run Tryd.prog wr = _ := fun ty => Lib.run_next_end_at wr w1.heap.size r r.size ty hit hp
        go_wp2
        have hP := put4 (a' := N) (b' := X) (c' := Z) (d' := 2) hA.out
        have hQ := below4 (a' := .int .i64 N) (b' := .int .u64 X) (c' := .int .u64 Z) (d' := .int .i64 2) hbw (Nat.le_refl _)
        revert hP hQ
        clear k0 k1 k2 k3 f0 f1 f2 f3 l0 l1 l2 l3 g0 g1 g2 g3
        generalize ((((wr.setCell ⟨w.heap.size, 0, none⟩ (.int .i64 N)).setCell ⟨w.heap.size, 1, none⟩ (.int .u64 X)).setCell ⟨w.heap.size, 2, none⟩ (.int .u64 Z)).setCell ⟨w.heap.size, 3, none⟩ (.int .i64 2)) = W'
        intro hP hQ
        obtain ⟨k0, k1, k2, k3⟩ := cells4 hP
        refine bodyPost_ret (v := .tuple #[.agg #[.int .i64 N, .int .u64 X, .int .u64 Z, .int .i64 2], .int .i64 0]) (by simp [results, Tryd.results7, go_sem, k0, k1, k2, k3]) rfl ⟨by rw [EX.out, EZ.out, EN.out]; rfl, hQ⟩
  · obtain rfl := h1 rfl
    obtain rfl := (h2 rfl).symm
    clear h1 h2 h3 c2
    have C1 := Aside0.mk c1; clear c1
    have C3 := Aside0.mk c3; clear c3
    have C4 := Aside0.mk c4; clear c4
    go_enter Tryd.func7, Tryd.ntmps7
    go_wp2_with (first
      | (go_at_call 14; ((with_reducible refine (C1.out _).mono ?_); rintro e w' ⟨rfl, rfl⟩))
      | (go_at_call 14; ((with_reducible refine (C3.out _).mono ?_); rintro e w' ⟨rfl, rfl⟩))
      | (go_at_call 16; ((with_reducible refine (C4.out _).mono ?_); rintro e w1 ⟨rfl, hb1⟩; obtain ⟨B0, B1, hb⟩ := start_below (start0 w _) hb1; clear hb1; obtain ⟨k0, k1, k2, k3⟩ := cells4 B0; obtain ⟨f0, f1, f2, f3⟩ := froz4 B0; have B0 := Aside0.mk B0; have B1 := Aside0.mk B1; have HB := Aside0.mk hb; clear hb)))
    go_loopw [] (fun wr => Mid w r w1.heap.size 3 wr) (fun wr => r.size - wr.iterPos w1.heap.size)
    case atStart => exact ⟨0, Nat.zero_le _, blk_alloc B0.out _, blk_alloc B1.out _, World.iter_heap w1 r 0, below_alloc HB.out _⟩
    case round =>
      obtain ⟨pos, hpos, hA, hB, hit, hbw⟩ := hrel
      have hB := Aside0.mk hB
      have hA := Aside0.mk hA
      clear k0 k1 k2 k3 f0 f1 f2 f3
      by_cases hp : pos < r.size
      · have hl := hr r[pos] (List.getElem_mem (l := r.data.toList) (n := pos) (by simpa using hp))
        obtain ⟨hne1, hA2⟩ := iter_kept hA.out hit (pos + 1)
        obtain ⟨hne2, hB2⟩ := iter_kept hB.out hit (pos + 1)
        have hit2 := Lib.iterAt_heap wr w1.heap.size r pos (pos + 1) hit
        have hbw2 := Lib.below_iterAt hbw (k := w1.heap.size) (HB.out.size) r (pos + 1)
        obtain ⟨k0, k1, k2, k3⟩ := cells4 hB2
        obtain ⟨f0, f1, f2, f3⟩ := froz4 hB2
        have hx := lt63 88 89 r pos (by omega)
        have hz := lt63 90 89 r pos (by omega)
        rcases hl with hl | hl | hl | hl
        · have hnx : ∀ ty, (Instr.next (.pointer (some ⟨w1.heap.size, 0, none⟩)) true ty).run Tryd.prog wr = .ok (.tuple #[.bool true, .int .i64 pos, .int .i32 73]) (wr.iterAt w1.heap.size r (pos + 1)) := fun ty => by
            rw [Lib.run_next_ascii_at wr w1.heap.size r pos ty hit hp (by rw [hl]; decide), hl]; rfl
          go_wp2
          go_roundw
          case rel => exact (mid_end (a := (pos : Int) + 1) (b := ((bitsOf 88 89 (r.data.toList.take pos) 0 : Nat) : Int) * 2) (c := ((bitsOf 90 89 (r.data.toList.take pos) 0 : Nat) : Int) * 2) hp hit (blk_far (blk_far (blk_far (hA2) (by simp) _) (by simp) _) (by simp) _) (blk_put (blk_put (blk_put hB2 0 _ rfl) 1 _ rfl) 2 _ rfl) (far_obj (far_obj (far_obj (hit2) (Ne.symm hne2) _) (Ne.symm hne2) _) (Ne.symm hne2) _) (below_set (below_set (below_set (hbw2) (by omega)) (by omega)) (by omega)) rfl (by rw [hl]; exact wrapx hx) (by rw [hl]; exact wrapx hz)).1
          case measure => exact (mid_end (a := (pos : Int) + 1) (b := ((bitsOf 88 89 (r.data.toList.take pos) 0 : Nat) : Int) * 2) (c := ((bitsOf 90 89 (r.data.toList.take pos) 0 : Nat) : Int) * 2) hp hit (blk_far (blk_far (blk_far (hA2) (by simp) _) (by simp) _) (by simp) _) (blk_put (blk_put (blk_put hB2 0 _ rfl) 1 _ rfl) 2 _ rfl) (far_obj (far_obj (far_obj (hit2) (Ne.symm hne2) _) (Ne.symm hne2) _) (Ne.symm hne2) _) (below_set (below_set (below_set (hbw2) (by omega)) (by omega)) (by omega)) rfl (by rw [hl]; exact wrapx hx) (by rw [hl]; exact wrapx hz)).2
        · have hnx : ∀ ty, (Instr.next (.pointer (some ⟨w1.heap.size, 0, none⟩)) true ty).run Tryd.prog wr = .ok (.tuple #[.bool true, .int .i64 pos, .int .i32 88]) (wr.iterAt w1.heap.size r (pos + 1)) := fun ty => by
            rw [Lib.run_next_ascii_at wr w1.heap.size r pos ty hit hp (by rw [hl]; decide), hl]; rfl
          go_wp2
          go_roundw
          case rel => exact (mid_end (a := (pos : Int) + 1) (b := bits BinOp.or IntKind.u64 (((bitsOf 88 89 (r.data.toList.take pos) 0 : Nat) : Int) * 2) 1) (c := ((bitsOf 90 89 (r.data.toList.take pos) 0 : Nat) : Int) * 2) hp hit (blk_far (blk_far (blk_far (blk_far (hA2) (by simp) _) (by simp) _) (by simp) _) (by simp) _) (blk_put (blk_put (blk_put (blk_put hB2 0 _ rfl) 1 _ rfl) 2 _ rfl) 1 _ rfl) (far_obj (far_obj (far_obj (far_obj (hit2) (Ne.symm hne2) _) (Ne.symm hne2) _) (Ne.symm hne2) _) (Ne.symm hne2) _) (below_set (below_set (below_set (below_set (hbw2) (by omega)) (by omega)) (by omega)) (by omega)) rfl (by rw [hl]; exact or1 hx) (by rw [hl]; exact wrapx hz)).1
          case measure => exact (mid_end (a := (pos : Int) + 1) (b := bits BinOp.or IntKind.u64 (((bitsOf 88 89 (r.data.toList.take pos) 0 : Nat) : Int) * 2) 1) (c := ((bitsOf 90 89 (r.data.toList.take pos) 0 : Nat) : Int) * 2) hp hit (blk_far (blk_far (blk_far (blk_far (hA2) (by simp) _) (by simp) _) (by simp) _) (by simp) _) (blk_put (blk_put (blk_put (blk_put hB2 0 _ rfl) 1 _ rfl) 2 _ rfl) 1 _ rfl) (far_obj (far_obj (far_obj (far_obj (hit2) (Ne.symm hne2) _) (Ne.symm hne2) _) (Ne.symm hne2) _) (Ne.symm hne2) _) (below_set (below_set (below_set (below_set (hbw2) (by omega)) (by omega)) (by omega)) (by omega)) rfl (by rw [hl]; exact or1 hx) (by rw [hl]; exact wrapx hz)).2
        · have hnx : ∀ ty, (Instr.next (.pointer (some ⟨w1.heap.size, 0, none⟩)) true ty).run Tryd.prog wr = .ok (.tuple #[.bool true, .int .i64 pos, .int .i32 89]) (wr.iterAt w1.heap.size r (pos + 1)) := fun ty => by
            rw [Lib.run_next_ascii_at wr w1.heap.size r pos ty hit hp (by rw [hl]; decide), hl]; rfl
          go_wp2
          go_roundw
          case rel => exact (mid_end (a := (pos : Int) + 1) (b := bits BinOp.or IntKind.u64 (((bitsOf 88 89 (r.data.toList.take pos) 0 : Nat) : Int) * 2) 1) (c := bits BinOp.or IntKind.u64 (((bitsOf 90 89 (r.data.toList.take pos) 0 : Nat) : Int) * 2) 1) hp hit (blk_far (blk_far (blk_far (blk_far (blk_far (hA2) (by simp) _) (by simp) _) (by simp) _) (by simp) _) (by simp) _) (blk_put (blk_put (blk_put (blk_put (blk_put hB2 0 _ rfl) 1 _ rfl) 2 _ rfl) 1 _ rfl) 2 _ rfl) (far_obj (far_obj (far_obj (far_obj (far_obj (hit2) (Ne.symm hne2) _) (Ne.symm hne2) _) (Ne.symm hne2) _) (Ne.symm hne2) _) (Ne.symm hne2) _) (below_set (below_set (below_set (below_set (below_set (hbw2) (by omega)) (by omega)) (by omega)) (by omega)) (by omega)) rfl (by rw [hl]; exact or1 hx) (by rw [hl]; exact or1 hz)).1
          case measure => exact (mid_end (a := (pos : Int) + 1) (b := bits BinOp.or IntKind.u64 (((bitsOf 88 89 (r.data.toList.take pos) 0 : Nat) : Int) * 2) 1) (c := bits BinOp.or IntKind.u64 (((bitsOf 90 89 (r.data.toList.take pos) 0 : Nat) : Int) * 2) 1) hp hit (blk_far (blk_far (blk_far (blk_far (blk_far (hA2) (by simp) _) (by simp) _) (by simp) _) (by simp) _) (by simp) _) (blk_put (blk_put (blk_put (blk_put (blk_put hB2 0 _ rfl) 1 _ rfl) 2 _ rfl) 1 _ rfl) 2 _ rfl) (far_obj (far_obj (far_obj (far_obj (far_obj (hit2) (Ne.symm hne2) _) (Ne.symm hne2) _) (Ne.symm hne2) _) (Ne.symm hne2) _) (Ne.symm hne2) _) (below_set (below_set (below_set (below_set (below_set (hbw2) (by omega)) (by omega)) (by omega)) (by omega)) (by omega)) rfl (by rw [hl]; exact or1 hx) (by rw [hl]; exact or1 hz)).2
        · have hnx : ∀ ty, (Instr.next (.pointer (some ⟨w1.heap.size, 0, none⟩)) true ty).run Tryd.prog wr = .ok (.tuple #[.bool true, .int .i64 pos, .int .i32 90]) (wr.iterAt w1.heap.size r (pos + 1)) := fun ty => by
            rw [Lib.run_next_ascii_at wr w1.heap.size r pos ty hit hp (by rw [hl]; decide), hl]; rfl
          go_wp2
          go_roundw
          case rel => exact (mid_end (a := (pos : Int) + 1) (b := ((bitsOf 88 89 (r.data.toList.take pos) 0 : Nat) : Int) * 2) (c := bits BinOp.or IntKind.u64 (((bitsOf 90 89 (r.data.toList.take pos) 0 : Nat) : Int) * 2) 1) hp hit (blk_far (blk_far (blk_far (blk_far (hA2) (by simp) _) (by simp) _) (by simp) _) (by simp) _) (blk_put (blk_put (blk_put (blk_put hB2 0 _ rfl) 1 _ rfl) 2 _ rfl) 2 _ rfl) (far_obj (far_obj (far_obj (far_obj (hit2) (Ne.symm hne2) _) (Ne.symm hne2) _) (Ne.symm hne2) _) (Ne.symm hne2) _) (below_set (below_set (below_set (below_set (hbw2) (by omega)) (by omega)) (by omega)) (by omega)) rfl (by rw [hl]; exact wrapx hx) (by rw [hl]; exact or1 hz)).1
          case measure => exact (mid_end (a := (pos : Int) + 1) (b := ((bitsOf 88 89 (r.data.toList.take pos) 0 : Nat) : Int) * 2) (c := bits BinOp.or IntKind.u64 (((bitsOf 90 89 (r.data.toList.take pos) 0 : Nat) : Int) * 2) 1) hp hit (blk_far (blk_far (blk_far (blk_far (hA2) (by simp) _) (by simp) _) (by simp) _) (by simp) _) (blk_put (blk_put (blk_put (blk_put hB2 0 _ rfl) 1 _ rfl) 2 _ rfl) 2 _ rfl) (far_obj (far_obj (far_obj (far_obj (hit2) (Ne.symm hne2) _) (Ne.symm hne2) _) (Ne.symm hne2) _) (Ne.symm hne2) _) (below_set (below_set (below_set (below_set (hbw2) (by omega)) (by omega)) (by omega)) (by omega)) rfl (by rw [hl]; exact wrapx hx) (by rw [hl]; exact or1 hz)).2
      · obtain rfl : pos = r.size := by omega
        rw [List.take_of_length_le (show r.data.toList.length ≤ r.size from Nat.le_of_eq rfl)] at hB
        generalize eX : ((bitsOf 88 89 r.data.toList 0 : Nat) : Int) = X at hB
        generalize eZ : ((bitsOf 90 89 r.data.toList 0 : Nat) : Int) = Z at hB
        generalize eN : (r.size : Int) = N at hB
        have EX := Aside0.mk eX; clear eX
        have EZ := Aside0.mk eZ; clear eZ
        have EN := Aside0.mk eN; clear eN
        obtain ⟨k0, k1, k2, k3⟩ := cells4 hB.out
        obtain ⟨f0, f1, f2, f3⟩ := froz4 hB.out
        obtain ⟨l0, l1, l2, l3⟩ := cells4 hA.out
        obtain ⟨g0, g1, g2, g3⟩ := froz4 hA.out
        have hnx : ∀ ty, (Instr.next (.pointer (some ⟨w1.heap.size, 0, none⟩)) true ty).run Tryd.prog wr = _ := fun ty => Lib.run_next_end_at wr w1.heap.size r r.size ty hit hp
        go_wp2
        have hP := put4 (a' := N) (b' := X) (c' := Z) (d' := 3) hA.out
        have hQ := below4 (a' := .int .i64 N) (b' := .int .u64 X) (c' := .int .u64 Z) (d' := .int .i64 3) hbw (Nat.le_refl _)
        revert hP hQ
        clear k0 k1 k2 k3 f0 f1 f2 f3 l0 l1 l2 l3 g0 g1 g2 g3
        generalize ((((wr.setCell ⟨w.heap.size, 0, none⟩ (.int .i64 N)).setCell ⟨w.heap.size, 1, none⟩ (.int .u64 X)).setCell ⟨w.heap.size, 2, none⟩ (.int .u64 Z)).setCell ⟨w.heap.size, 3, none⟩ (.int .i64 3)) = W'
        intro hP hQ
        obtain ⟨k0, k1, k2, k3⟩ := cells4 hP
        refine bodyPost_ret (v := .tuple #[.agg #[.int .i64 N, .int .u64 X, .int .u64 Z, .int .i64 3], .int .i64 0]) (by simp [results, Tryd.results7, go_sem, k0, k1, k2, k3]) rfl ⟨by rw [EX.out, EZ.out, EN.out]; rfl, hQ⟩
end Go.Proofs.YtechbhjdgfcgoaaDoor.PA
