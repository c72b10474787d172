/- CodeNamed at any name. -/
import Derived.Test.YtfnmembjgclhoaaCodAS
namespace Go.Proofs.Ytfnmembjgclhoaa.CD
open Go Go.RowKit
set_option linter.unusedVariables false
set_option linter.unusedSimpArgs false

def noCode : Cod := ⟨0, none, 0, [], none, 0, [], none, 0, []⟩
theorem noCode_at (W : World) : CodAt W noCode := ⟨by unfold I64 noCode; simp, ⟨by simp [noCode], by simp [noCode], by simp [noCode], by simp [noCode], .inl rfl⟩, ⟨by simp [noCode], by simp [noCode], by simp [noCode], by simp [noCode], .inl rfl⟩, ⟨by simp [noCode], by simp [noCode], by simp [noCode], by simp [noCode], .inl rfl⟩⟩

set_option maxRecDepth 100000 in
set_option maxHeartbeats 16000000 in
theorem named_out (s : ByteArray) (h1 : s ≠ bit3W) (h2 : s ≠ phase3W) (h3 : s ≠ fiveW) (h4 : s ≠ steaneW) (w : World) : Calls Try.prog 5 #[.string s] w fun e w' => e = .returned (.bool true) ∧ Below w.heap.size w w' := by
  have hp := named_other s h1 h2 h3 h4
  have hr := refnamed_other s h1 h2 h3 h4
  clear h1 h2 h3 h4
  have c22 := fun W => same_calls noCode noCode W (noCode_at W) (noCode_at W) true (iff_of_true rfl ⟨rfl, rfl, rfl, rfl⟩)
  simp only [noCode, List.length_nil] at c22
  go_enter Try.func5, Try.ntmps5
  go_wp2_with fail
  go_at_call 9
  refine (alive_calls _).mono ?_
  rintro e w1 ⟨rfl, hb1⟩
  have HB1 := Lib.hid hb1
  clear hb1
  go_wp2_with fail
  go_at_call 20
  refine (hr _).mono ?_
  rintro e w2 ⟨rfl, hb⟩
  have HBB := below1 w2 (.cells #[.int .i64 0, .slice none 0 0, .slice none 0 0, .slice none 0 0] 24)
  have HB2 := Lib.hid ((HB1.out.trans (hb.mono HB1.out.size)).trans (HBB.mono (Nat.le_trans HB1.out.size hb.size)))
  have HX3 := Lib.hid (BoxAt.new w2 noCode)
  clear hb HBB HB1
  go_wp2_with fail
  go_at_call 21
  refine (hp _).mono ?_
  rintro e w3 ⟨rfl, hb⟩
  have HBB := below1 w3 (.cells #[.int .i64 0, .slice none 0 0, .slice none 0 0, .slice none 0 0] 24)
  have HB3 := Lib.hid ((HB2.out.trans (hb.mono HB2.out.size)).trans (HBB.mono (Nat.le_trans HB2.out.size hb.size)))
  replace HX3 := Lib.hid ((HX3.out.step hb).step HBB)
  have HX5 := Lib.hid (BoxAt.new w3 noCode)
  have hs3 : w2.heap.size < w3.heap.size := by have := hb.size; simp at this; omega
  clear hb HBB HB2
  go_wp2_with fail
  go_at_call 21
  refine (hp _).mono ?_
  rintro e w4 ⟨rfl, hb⟩
  have HBB := below1 w4 (.cells #[.int .i64 0, .slice none 0 0, .slice none 0 0, .slice none 0 0] 24)
  have HN := Lib.hid (N7.mk ((HB3.out.trans (hb.mono HB3.out.size)).trans (HBB.mono (Nat.le_trans HB3.out.size hb.size))) ((HX3.out.step hb).step HBB) ((HX5.out.step hb).step HBB) (BoxAt.new w4 noCode) (noCode_at _) (noCode_at _) (noCode_at _))
  have hs4 : w3.heap.size < w4.heap.size := by have := hb.size; simp at this; omega
  clear hb HBB HB3 HX3 HX5
  obtain ⟨-, ⟨-, a0, a1, a2, a3⟩, ⟨-, b0, b1, b2, b3⟩, ⟨-, e0, e1, e2, e3⟩, -, -, -⟩ := HN.out
  simp only [noCode, List.length_nil] at a0 a1 a2 a3 b0 b1 b2 b3 e0 e1 e2 e3
  go_wp2_with fail
  go_at_call 22
  refine (c22 _).mono ?_
  rintro e w5 ⟨rfl, hb⟩
  replace HN := Lib.hid (HN.out.step hb)
  clear hb a0 a1 a2 a3 b0 b1 b2 b3 e0 e1 e2 e3
  obtain ⟨-, ⟨-, a0, a1, a2, a3⟩, ⟨-, b0, b1, b2, b3⟩, ⟨-, e0, e1, e2, e3⟩, -, -, -⟩ := HN.out
  simp only [noCode, List.length_nil] at a0 a1 a2 a3 b0 b1 b2 b3 e0 e1 e2 e3
  go_wp2_with fail
  go_at_call 22
  refine (c22 _).mono ?_
  rintro e w6 ⟨rfl, hb⟩
  replace HN := Lib.hid (HN.out.step hb)
  clear hb a0 a1 a2 a3 b0 b1 b2 b3 e0 e1 e2 e3
  go_wp2_with fail
  go_ret
  exact ⟨rfl, HN.out.below⟩

theorem named_calls (s : ByteArray) (w : World) : Calls Try.prog 5 #[.string s] w fun e w' => e = .returned (.bool true) ∧ Below w.heap.size w w' := by
  by_cases h1 : s = bit3W
  · subst h1
    exact named_walk _ _ _ _ _ _ makes_bit3 refmakes_bit3 false false (by kernel_rfl) (by kernel_rfl) rfl w
  by_cases h2 : s = phase3W
  · subst h2
    exact named_walk _ _ _ _ _ _ makes_phase3 refmakes_phase3 false false (by kernel_rfl) (by kernel_rfl) rfl w
  by_cases h3 : s = fiveW
  · subst h3
    exact named_walk _ _ _ _ _ _ makes_five refmakes_five true false (by kernel_rfl) (by kernel_rfl) rfl w
  by_cases h4 : s = steaneW
  · subst h4
    exact named_walk _ _ _ _ _ _ makes_steane refmakes_steane false true (by kernel_rfl) (by kernel_rfl) rfl w
  exact named_out s h1 h2 h3 h4 w
end Go.Proofs.Ytfnmembjgclhoaa.CD
