/- pauli.Text: the sign and a letter for each qubit, over strings.Builder's contracts. -/
import Derived.Test.YtechbhjdgfcgoaaDoorGLibD
import Derived.Test.YtechbhjdgfcgoaaDoorPAx2
import Derived.Test.YtechbhjdgfcgoaaDoorBitA
import Derived.WalkKit
import Derived.BigCall
import Derived.Deep.RegionHeld3
namespace Go.Proofs.YtechbhjdgfcgoaaDoor.PA
open Go.RowKit Go.Proofs.YtechbhjdgfcgoaaDoor.B Go.Proofs.YtechbhjdgfcgoaaDoorW.PrintWords Go.Proofs.YtechbhjdgfcgoaaDoorW.PrintLast Go.Proofs.YtechbhjdgfcgoaaDoorW.PrintMore
def signOf (p : Int) : List UInt8 := if p = 0 then [43] else if p = 1 then [43, 105] else if p = 2 then [45] else [45, 105]
def letter (x z : Int) (j : Nat) : UInt8 := if x / 2 ^ j % 2 = 1 then (if z / 2 ^ j % 2 = 1 then 89 else 88) else (if z / 2 ^ j % 2 = 1 then 90 else 73)
def letters (x z : Int) : Nat → List UInt8
  | 0 => []
  | m + 1 => letter x z m :: letters x z m
theorem and1 {y : Int} (h0 : 0 ≤ y) (h1 : y < 18446744073709551616) : bits BinOp.and IntKind.u64 y 1 = y % 2 := by
  obtain ⟨n, rfl⟩ : ∃ n : Nat, y = (n : Int) := ⟨y.toNat, by omega⟩
  rw [show (1 : Int) = ((1 : Nat) : Int) from rfl, and_u (by omega) (by decide), Nat.and_one_is_mod]
  omega
theorem div_range {y : Int} (h0 : 0 ≤ y) (h1 : y < 18446744073709551616) (k : Nat) : 0 ≤ y / 2 ^ k ∧ y / 2 ^ k < 18446744073709551616 := by
  have hp : (0 : Int) < 2 ^ k := Int.pow_pos (by decide)
  refine ⟨Int.ediv_nonneg h0 (Int.le_of_lt hp), Int.lt_of_le_of_lt (Int.ediv_le_self _ h0) h1⟩
set_option maxHeartbeats 4000000 in
set_option maxRecDepth 1000000 in
theorem text_walk (n x z p : Int) (w : World) (hx : 0 ≤ x ∧ x < 18446744073709551616) (hz : 0 ≤ z ∧ z < 18446744073709551616) (hn : 0 ≤ n ∧ n ≤ 64) (sg : ByteArray) (hsg : sg.size ≤ 2) (i0 : ∀ w, (Instr.index 54 (.agg #[.string ⟨#[43]⟩, .string ⟨#[43, 105]⟩, .string ⟨#[45]⟩, .string ⟨#[45, 105]⟩]) (.int .i64 p)).run Tryd.prog w = .ok (.string sg) w) (hc : pauli_Check.f n x z p = some 0) :
    Calls Tryd.prog 8 #[.agg #[.int .i64 n, .int .u64 x, .int .u64 z, .int .i64 p]] w fun e w' => e = .returned (.tuple #[.string ⟨(sg.data.toList ++ letters x z n.toNat).toArray⟩, .int .i64 0]) ∧ Below w.heap.size w w' := by
  have hu26 := Tryd.underlying26
  go_enter Tryd.func8, Tryd.ntmps8
  go_wp2_with (first
    | (go_at_call 9; (with_reducible refine (pauli_Check.calls n x z p 0 _ hc).mono ?_); rintro e w1 ⟨rfl, hb1⟩; have hblk : w1.heap[w.heap.size]? = some (.cells #[.int .i64 n, .int .u64 x, .int .u64 z, .int .i64 p] 26 (0, 0)) := blk_below (blk_new w _) hb1; have hblk2 := blk_alloc hblk (.cells #[.pointer none, .slice none 0 0] 49 (0, 0)); have hc3 : (w1.alloc (.cells #[.pointer none, .slice none 0 0] 49 (0, 0))).cell? ⟨w.heap.size, 3, none⟩ = some (.int .i64 p) := (blk_cell hblk2 3).trans rfl; have hf3 := blk_frozen hblk2 3)
    | (go_at_call 17; (with_reducible refine (write_string w1.heap.size w1.heap.size [] sg _ (Lib.fresh_isBuilder 49 5 w1) (by simp; omega) (by simp)).mono ?_); rintro e w2 ⟨rfl, h2, hb2⟩; have hblk3 : w2.heap[w.heap.size]? = some (.cells #[.int .i64 n, .int .u64 x, .int .u64 z, .int .i64 p] 26 (0, 0)) := (hb2.block _ (blk_lt hblk)).trans hblk2; have hc0 : w2.cell? ⟨w.heap.size, 0, none⟩ = some (.int .i64 n) := (blk_cell hblk3 0).trans rfl; have hf0 := blk_frozen hblk3 0))
  go_loopg [6] (n.toNat + 1) (fun kq v6 wr => ∃ (m : Nat) (j : Int) (acc : List UInt8), kq = m + 1 ∧ v6 = .int .i64 j ∧ j = (m : Int) - 1 ∧ m ≤ 64 ∧ Lib.IsBuilder 49 5 w1.heap.size w1.heap.size (Lib.byteCells acc) wr ∧ acc ++ letters x z m = sg.data.toList ++ letters x z n.toNat ∧ acc.length + m ≤ 66 ∧ Below w1.heap.size w1 wr)
  case atStart =>
    have hsl : sg.data.toList.length = sg.size := by rw [Array.length_toList]; rfl
    refine ⟨n.toNat, n - 1, sg.data.toList, rfl, rfl, by omega, by omega, Or.inr h2, rfl, by omega, ?_⟩
    exact Below.trans (below_alloc (Below.refl _ _) _) hb2
  case round =>
    obtain ⟨m, j, acc, hk, rfl, hj, hm, hI, hacc, hal, hbw⟩ := hrel
    have hblkr : wr.heap[w.heap.size]? = some (.cells #[.int .i64 n, .int .u64 x, .int .u64 z, .int .i64 p] 26 (0, 0)) := (hbw.block _ (blk_lt hblk)).trans hblk
    have hsz : w1.heap.size ≤ wr.heap.size := hbw.size
    cases m with
    | zero =>
      have hge : decide ((0 : Int) ≤ j) = false := decide_eq_false (by omega)
      go_wp2_with (go_at_call 19; (with_reducible refine (builder_string w1.heap.size w1.heap.size acc _ hI hsz).mono ?_); rintro e w4 ⟨rfl, hb4⟩)
      go_ret2
      refine ⟨?_, ?_⟩
      · rw [show letters x z 0 = [] from rfl, List.append_nil] at hacc
        rw [hacc]
        rfl
      · exact ((below_alloc (Below.refl _ _) _).trans (hb1.mono (by simp))).trans ((hbw.mono (blk_lt hblk |> Nat.le_of_lt)).trans (hb4.mono (blk_lt hblk |> Nat.le_of_lt)))
    | succ m =>
      have hc1 : wr.cell? ⟨w.heap.size, 1, none⟩ = some (.int .u64 x) := (blk_cell hblkr 1).trans rfl
      have hc2 : wr.cell? ⟨w.heap.size, 2, none⟩ = some (.int .u64 z) := (blk_cell hblkr 2).trans rfl
      have hId : Lib.IsBuilder 49 5 w1.heap.size w1.heap.size (Lib.byteCells acc) wr.drew := hI
      have hszd : w1.heap.size ≤ wr.drew.heap.size := hsz
      have hge : decide ((0 : Int) ≤ j) = true := decide_eq_true (by omega)
      have hf1 := blk_frozen hblkr 1
      have hf2 := blk_frozen hblkr 2
      have hjm : j.toNat = m := by omega
      have dx := div_range hx.1 hx.2 m
      have dz := div_range hz.1 hz.2 m
      have ax := and1 dx.1 dx.2
      have az := and1 dz.1 dz.2
      have rx : x / 2 ^ m % 2 = 0 ∨ x / 2 ^ m % 2 = 1 := by omega
      have rz : z / 2 ^ m % 2 = 0 ∨ z / 2 ^ m % 2 = 1 := by omega
      clear dx dz
      rcases rx with rx | rx <;> rcases rz with rz | rz
      · rw [rx] at ax
        rw [rz] at az
        have i1 : ∀ w, (Instr.index 9 (.string ⟨#[73, 88, 90, 89]⟩) (.int .u64 0)).run Tryd.prog w = .ok (.int .u8 73) w := fun w => by kernel_rfl
        have o1 : bits BinOp.or IntKind.u64 0 0 = 0 := by decide +kernel
        have wz : IntKind.u64.wrap 0 = 0 := by decide +kernel
        have hl : letter x z m = 73 := by unfold letter; rw [rx, rz]; rfl
        go_wp2
        go_region_held3 (fun w' => w'.cell? ⟨w.heap.size, 1, none⟩ = some (.int .u64 x) ∧ w'.cell? ⟨w.heap.size, 2, none⟩ = some (.int .u64 z)) (first | exact ⟨k1, k2⟩ | go_keep)
          (first | (go_at_call 18; (with_reducible refine (write_byte w1.heap.size w1.heap.size (Lib.byteCells acc) 73 wr.drew hId (by rw [Lib.byteCells_length]; omega) hszd).mono ?_); rintro e w5 ⟨rfl, h5, hb5⟩; have k1 : w5.cell? ⟨w.heap.size, 1, none⟩ = some (.int .u64 x) := (hb5.cell (p := ⟨w.heap.size, 1, none⟩) (blk_lt hblk)).trans hc1; have k2 : w5.cell? ⟨w.heap.size, 2, none⟩ = some (.int .u64 z) := (hb5.cell (p := ⟨w.heap.size, 2, none⟩) (blk_lt hblk)).trans hc2))
        all_goals go_wp2
        go_roundg (m + 1)
        case measure => omega
        case rel =>
          refine ⟨m, (m : Int) - 1, acc ++ [73], rfl, rfl, by omega, by omega, Or.inr (by rw [Lib.byteCells_append]; exact h5), ?_, by simp; omega, hbw.drew.trans hb5⟩
          rw [← hacc, List.append_assoc, show letters x z (m + 1) = letter x z m :: letters x z m from rfl, hl]
          rfl
      · rw [rx] at ax
        rw [rz] at az
        have i1 : ∀ w, (Instr.index 9 (.string ⟨#[73, 88, 90, 89]⟩) (.int .u64 2)).run Tryd.prog w = .ok (.int .u8 90) w := fun w => by kernel_rfl
        have o1 : bits BinOp.or IntKind.u64 0 2 = 2 := by decide +kernel
        have wz : IntKind.u64.wrap 2 = 2 := by decide +kernel
        have hl : letter x z m = 90 := by unfold letter; rw [rx, rz]; rfl
        go_wp2
        go_region_held3 (fun w' => w'.cell? ⟨w.heap.size, 1, none⟩ = some (.int .u64 x) ∧ w'.cell? ⟨w.heap.size, 2, none⟩ = some (.int .u64 z)) (first | exact ⟨k1, k2⟩ | go_keep)
          (first | (go_at_call 18; (with_reducible refine (write_byte w1.heap.size w1.heap.size (Lib.byteCells acc) 90 wr.drew hId (by rw [Lib.byteCells_length]; omega) hszd).mono ?_); rintro e w5 ⟨rfl, h5, hb5⟩; have k1 : w5.cell? ⟨w.heap.size, 1, none⟩ = some (.int .u64 x) := (hb5.cell (p := ⟨w.heap.size, 1, none⟩) (blk_lt hblk)).trans hc1; have k2 : w5.cell? ⟨w.heap.size, 2, none⟩ = some (.int .u64 z) := (hb5.cell (p := ⟨w.heap.size, 2, none⟩) (blk_lt hblk)).trans hc2))
        all_goals go_wp2
        go_roundg (m + 1)
        case measure => omega
        case rel =>
          refine ⟨m, (m : Int) - 1, acc ++ [90], rfl, rfl, by omega, by omega, Or.inr (by rw [Lib.byteCells_append]; exact h5), ?_, by simp; omega, hbw.drew.trans hb5⟩
          rw [← hacc, List.append_assoc, show letters x z (m + 1) = letter x z m :: letters x z m from rfl, hl]
          rfl
      · rw [rx] at ax
        rw [rz] at az
        have i1 : ∀ w, (Instr.index 9 (.string ⟨#[73, 88, 90, 89]⟩) (.int .u64 1)).run Tryd.prog w = .ok (.int .u8 88) w := fun w => by kernel_rfl
        have o1 : bits BinOp.or IntKind.u64 1 0 = 1 := by decide +kernel
        have wz : IntKind.u64.wrap 0 = 0 := by decide +kernel
        have hl : letter x z m = 88 := by unfold letter; rw [rx, rz]; rfl
        go_wp2
        go_region_held3 (fun w' => w'.cell? ⟨w.heap.size, 1, none⟩ = some (.int .u64 x) ∧ w'.cell? ⟨w.heap.size, 2, none⟩ = some (.int .u64 z)) (first | exact ⟨k1, k2⟩ | go_keep)
          (first | (go_at_call 18; (with_reducible refine (write_byte w1.heap.size w1.heap.size (Lib.byteCells acc) 88 wr.drew hId (by rw [Lib.byteCells_length]; omega) hszd).mono ?_); rintro e w5 ⟨rfl, h5, hb5⟩; have k1 : w5.cell? ⟨w.heap.size, 1, none⟩ = some (.int .u64 x) := (hb5.cell (p := ⟨w.heap.size, 1, none⟩) (blk_lt hblk)).trans hc1; have k2 : w5.cell? ⟨w.heap.size, 2, none⟩ = some (.int .u64 z) := (hb5.cell (p := ⟨w.heap.size, 2, none⟩) (blk_lt hblk)).trans hc2))
        all_goals go_wp2
        go_roundg (m + 1)
        case measure => omega
        case rel =>
          refine ⟨m, (m : Int) - 1, acc ++ [88], rfl, rfl, by omega, by omega, Or.inr (by rw [Lib.byteCells_append]; exact h5), ?_, by simp; omega, hbw.drew.trans hb5⟩
          rw [← hacc, List.append_assoc, show letters x z (m + 1) = letter x z m :: letters x z m from rfl, hl]
          rfl
      · rw [rx] at ax
        rw [rz] at az
        have i1 : ∀ w, (Instr.index 9 (.string ⟨#[73, 88, 90, 89]⟩) (.int .u64 3)).run Tryd.prog w = .ok (.int .u8 89) w := fun w => by kernel_rfl
        have o1 : bits BinOp.or IntKind.u64 1 2 = 3 := by decide +kernel
        have wz : IntKind.u64.wrap 2 = 2 := by decide +kernel
        have hl : letter x z m = 89 := by unfold letter; rw [rx, rz]; rfl
        go_wp2
        go_region_held3 (fun w' => w'.cell? ⟨w.heap.size, 1, none⟩ = some (.int .u64 x) ∧ w'.cell? ⟨w.heap.size, 2, none⟩ = some (.int .u64 z)) (first | exact ⟨k1, k2⟩ | go_keep)
          (first | (go_at_call 18; (with_reducible refine (write_byte w1.heap.size w1.heap.size (Lib.byteCells acc) 89 wr.drew hId (by rw [Lib.byteCells_length]; omega) hszd).mono ?_); rintro e w5 ⟨rfl, h5, hb5⟩; have k1 : w5.cell? ⟨w.heap.size, 1, none⟩ = some (.int .u64 x) := (hb5.cell (p := ⟨w.heap.size, 1, none⟩) (blk_lt hblk)).trans hc1; have k2 : w5.cell? ⟨w.heap.size, 2, none⟩ = some (.int .u64 z) := (hb5.cell (p := ⟨w.heap.size, 2, none⟩) (blk_lt hblk)).trans hc2))
        all_goals go_wp2
        go_roundg (m + 1)
        case measure => omega
        case rel =>
          refine ⟨m, (m : Int) - 1, acc ++ [89], rfl, rfl, by omega, by omega, Or.inr (by rw [Lib.byteCells_append]; exact h5), ?_, by simp; omega, hbw.drew.trans hb5⟩
          rw [← hacc, List.append_assoc, show letters x z (m + 1) = letter x z m :: letters x z m from rfl, hl]
          rfl
def pauli_Text.f (a0_0 : Int) (a0_1 : Int) (a0_2 : Int) (a0_3 : Int) : Option (ByteArray × Int) :=
  if 0 ≤ a0_1 ∧ a0_1 < 18446744073709551616 ∧ 0 ≤ a0_2 ∧ a0_2 < 18446744073709551616 then
    (pauli_Check.f a0_0 a0_1 a0_2 a0_3).bind fun e => if e = 0 then some (⟨(signOf a0_3 ++ letters a0_1 a0_2 a0_0.toNat).toArray⟩, 0) else some (⟨#[]⟩, e)
  else none
theorem check_zero {n x z p : Int} (h : pauli_Check.f n x z p = some 0) : 0 ≤ n ∧ n ≤ 64 ∧ 0 ≤ p ∧ p ≤ 3 := by
  unfold pauli_Check.f at h
  by_cases h1 : n < 0
  · rw [if_pos h1] at h; cases h
  · by_cases h2 : n > 64
    · rw [if_neg h1, if_pos h2] at h; cases h
    · by_cases h3 : p < 0
      · rw [if_neg h1, if_neg h2, if_pos h3] at h; cases h
      · by_cases h4 : p > 3
        · rw [if_neg h1, if_neg h2, if_neg h3, if_pos h4] at h; cases h
        · exact ⟨by omega, by omega, by omega, by omega⟩
theorem pauli_Text.calls (a0_0 : Int) (a0_1 : Int) (a0_2 : Int) (a0_3 : Int) (r1 : ByteArray) (r2 : Int) (w : World) (h : pauli_Text.f a0_0 a0_1 a0_2 a0_3 = some (r1, r2)) :
    Calls Tryd.prog 8 #[.agg #[.int .i64 a0_0, .int .u64 a0_1, .int .u64 a0_2, .int .i64 a0_3]] w fun e w' => e = .returned (.tuple #[.string r1, .int .i64 r2]) ∧ Below w.heap.size w w' := by
  unfold pauli_Text.f at h
  by_cases hr : 0 ≤ a0_1 ∧ a0_1 < 18446744073709551616 ∧ 0 ≤ a0_2 ∧ a0_2 < 18446744073709551616
  · rw [if_pos hr] at h
    obtain ⟨e, hc, h⟩ := Option.bind_eq_some_iff.mp h
    by_cases he : e = 0
    · subst he
      rw [if_pos rfl] at h
      simp only [Option.some.injEq, Prod.mk.injEq] at h
      obtain ⟨rfl, rfl⟩ := h
      obtain ⟨n0, n1, p0, p1⟩ := check_zero hc
      have hp : a0_3 = 0 ∨ a0_3 = 1 ∨ a0_3 = 2 ∨ a0_3 = 3 := by omega
      rcases hp with rfl | rfl | rfl | rfl
      · exact text_walk a0_0 a0_1 a0_2 0 w ⟨hr.1, hr.2.1⟩ hr.2.2 ⟨n0, n1⟩ ⟨#[43]⟩ (by decide) (fun w => by kernel_rfl) hc
      · exact text_walk a0_0 a0_1 a0_2 1 w ⟨hr.1, hr.2.1⟩ hr.2.2 ⟨n0, n1⟩ ⟨#[43, 105]⟩ (by decide) (fun w => by kernel_rfl) hc
      · exact text_walk a0_0 a0_1 a0_2 2 w ⟨hr.1, hr.2.1⟩ hr.2.2 ⟨n0, n1⟩ ⟨#[45]⟩ (by decide) (fun w => by kernel_rfl) hc
      · exact text_walk a0_0 a0_1 a0_2 3 w ⟨hr.1, hr.2.1⟩ hr.2.2 ⟨n0, n1⟩ ⟨#[45, 105]⟩ (by decide) (fun w => by kernel_rfl) hc
    · rw [if_neg he] at h
      simp only [Option.some.injEq, Prod.mk.injEq] at h
      obtain ⟨rfl, rfl⟩ := h
      have hb0 : (e == 0) = false := beq_eq_false_iff_ne.mpr he
      have hb1 : (e != 0) = true := bne_iff_ne.mpr he
      have hu26 := Tryd.underlying26
      go_enter Tryd.func8, Tryd.ntmps8
      go_wp2_with (first | (go_at_call 9; (with_reducible refine (pauli_Check.calls a0_0 a0_1 a0_2 a0_3 e _ hc).mono ?_); rintro e w1 ⟨rfl, hb1⟩))
      go_ret2
      exact ⟨rfl, (below_alloc (Below.refl _ _) _).trans (hb1.mono (by simp))⟩
  · rw [if_neg hr] at h
    cases h
end Go.Proofs.YtechbhjdgfcgoaaDoor.PA
