/- Named at any other name. -/
import Derived.Test.YtfnmembjgclhoaaCodAC
import Derived.KernelRfl
namespace Go.Proofs.Ytfnmembjgclhoaa.CD
open Go Go.RowKit
set_option linter.unusedVariables false
set_option linter.unusedSimpArgs false

theorem other_of {s t : ByteArray} {l : List UInt8} (h : s ≠ t) (ht : t.toList = l) : (s.toList == l) = false := by
  cases e : (s.toList == l) with
  | false => rfl
  | true =>
    exfalso
    apply h
    have e2 : s.toList = t.toList := by rw [ht]; exact eq_of_beq e
    rw [ByteArray.toList_eq, ByteArray.toList_eq] at e2
    cases s
    cases t
    exact congrArg ByteArray.mk (Array.toList_inj.1 e2)

set_option maxRecDepth 100000 in
set_option maxHeartbeats 4000000 in
theorem named_other (s : ByteArray) (h1 : s ≠ bit3W) (h2 : s ≠ phase3W) (h3 : s ≠ fiveW) (h4 : s ≠ steaneW) (w : World) : Calls Try.prog 21 #[.string s] w fun e w' => e = .returned (.tuple #[.agg #[.int .i64 0, .slice none 0 0, .slice none 0 0, .slice none 0 0], .int .i64 2]) ∧ Below w.heap.size w w' := by
  have HN := Lib.hid (NSt.start w)
  have hbd : ∀ (w : World), (Instr.build 24 #[]).run Try.prog w = .ok (.agg #[.int .i64 0, .slice none 0 0, .slice none 0 0, .slice none 0 0]) w := fun w => run_build w 24 _ _ (by kernel_rfl)
  have f1 := other_of h1 (by kernel_rfl : bit3W.toList = [98, 105, 116, 51])
  have f2 := other_of h2 (by kernel_rfl : phase3W.toList = [112, 104, 97, 115, 101, 51])
  have f3 := other_of h3 (by kernel_rfl : fiveW.toList = [102, 105, 118, 101])
  have f4 := other_of h4 (by kernel_rfl : steaneW.toList = [115, 116, 101, 97, 110, 101])
  clear h1 h2 h3 h4
  obtain ⟨-, hlt3, o0, o1, o2, o3, hfr⟩ := HN.out
  go_enter Try.func21, Try.ntmps21
  go_wp2_with fail
  refine bodyPost_ret (v := .tuple #[.agg #[.int .i64 0, .slice none 0 0, .slice none 0 0, .slice none 0 0], .int .i64 2]) (by simp [results, Try.results21, go_sem, *]) rfl ⟨rfl, ?_⟩
  exact below1 _ _

set_option maxRecDepth 100000 in
set_option maxHeartbeats 4000000 in
theorem refnamed_other (s : ByteArray) (h1 : s ≠ bit3W) (h2 : s ≠ phase3W) (h3 : s ≠ fiveW) (h4 : s ≠ steaneW) (w : World) : Calls Try.prog 20 #[.string s] w fun e w' => e = .returned (.tuple #[.agg #[.int .i64 0, .slice none 0 0, .slice none 0 0, .slice none 0 0], .int .i64 2]) ∧ Below w.heap.size w w' := by
  have HN := Lib.hid (NSt.start w)
  have hbd : ∀ (w : World), (Instr.build 24 #[]).run Try.prog w = .ok (.agg #[.int .i64 0, .slice none 0 0, .slice none 0 0, .slice none 0 0]) w := fun w => run_build w 24 _ _ (by kernel_rfl)
  have f1 := other_of h1 (by kernel_rfl : bit3W.toList = [98, 105, 116, 51])
  have f2 := other_of h2 (by kernel_rfl : phase3W.toList = [112, 104, 97, 115, 101, 51])
  have f3 := other_of h3 (by kernel_rfl : fiveW.toList = [102, 105, 118, 101])
  have f4 := other_of h4 (by kernel_rfl : steaneW.toList = [115, 116, 101, 97, 110, 101])
  clear h1 h2 h3 h4
  obtain ⟨-, hlt3, o0, o1, o2, o3, hfr⟩ := HN.out
  go_enter Try.func20, Try.ntmps20
  go_wp2_with fail
  refine bodyPost_ret (v := .tuple #[.agg #[.int .i64 0, .slice none 0 0, .slice none 0 0, .slice none 0 0], .int .i64 2]) (by simp [results, Try.results20, go_sem, *]) rfl ⟨rfl, ?_⟩
  exact below1 _ _

end Go.Proofs.Ytfnmembjgclhoaa.CD
