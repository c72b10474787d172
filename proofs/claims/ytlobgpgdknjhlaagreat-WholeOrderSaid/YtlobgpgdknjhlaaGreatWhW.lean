/- The document's gates: Arity, Inverse, Halves at every name, walked. -/
import Derived.Test.YtlobgpgdknjhlaaGreatWhV
namespace Go.Proofs.YtlobgpgdknjhlaaGreat.WH
open Go Go.RowKit Go.Proofs.YtlobgpgdknjhlaaGreat.F
set_option linter.unusedVariables false
set_option linter.unusedSimpArgs false
set_option maxRecDepth 100000 in
set_option maxHeartbeats 4000000 in
theorem rarity_calls (e : En) (he : e ∈ gates) (w : World) : Calls Tryz.prog 25 #[.string e.name] w fun x w' => x = .returned (.int .i64 e.ar) ∧ w' = w := by
  simp only [gates, List.mem_cons, List.not_mem_nil, or_false] at he
  rcases he with rfl | rfl | rfl | rfl | rfl | rfl | rfl | rfl | rfl | rfl | rfl | rfl | rfl | rfl | rfl | rfl | rfl | rfl | rfl | rfl | rfl | rfl | rfl | rfl | rfl <;> simp only [e_cswap, e_ccz, e_ccx, e_iswapdg, e_iswap, e_swap, e_csdg, e_cs, e_ch, e_cz, e_cy, e_cx, e_wdg, e_w, e_vdg, e_v, e_tdg, e_t, e_sdg, e_s, e_h, e_z, e_y, e_x, e_i]
  all_goals (
    go_enter Tryz.func25, Tryz.ntmps25
    go_wp2_with fail
    go_ret
    exact ⟨rfl, rfl⟩)
set_option maxRecDepth 100000 in
set_option maxHeartbeats 4000000 in
theorem rhalves_calls (e : En) (he : e ∈ gates) (w : World) : Calls Tryz.prog 60 #[.string e.name] w fun x w' => x = .returned (.int .i64 e.ha) ∧ w' = w := by
  simp only [gates, List.mem_cons, List.not_mem_nil, or_false] at he
  rcases he with rfl | rfl | rfl | rfl | rfl | rfl | rfl | rfl | rfl | rfl | rfl | rfl | rfl | rfl | rfl | rfl | rfl | rfl | rfl | rfl | rfl | rfl | rfl | rfl | rfl <;> simp only [e_cswap, e_ccz, e_ccx, e_iswapdg, e_iswap, e_swap, e_csdg, e_cs, e_ch, e_cz, e_cy, e_cx, e_wdg, e_w, e_vdg, e_v, e_tdg, e_t, e_sdg, e_s, e_h, e_z, e_y, e_x, e_i]
  all_goals (
    go_enter Tryz.func60, Tryz.ntmps60
    go_wp2_with fail
    go_ret
    exact ⟨rfl, rfl⟩)
theorem ne_list (s n : ByteArray) (l : List UInt8) (hl : n.toList = l) (h : s ≠ n) : (s.toList == l) = false := by
  rw [← hl, beq_eq_false_iff_ne]
  intro e
  rw [ByteArray.toList_eq, ByteArray.toList_eq] at e
  exact h (ByteArray.ext (Array.toList_inj.1 e))
def gnames : List ByteArray := [(⟨#[99, 115, 119, 97, 112]⟩ : ByteArray), (⟨#[99, 99, 122]⟩ : ByteArray), (⟨#[99, 99, 120]⟩ : ByteArray), (⟨#[105, 115, 119, 97, 112, 100, 103]⟩ : ByteArray), (⟨#[105, 115, 119, 97, 112]⟩ : ByteArray), (⟨#[115, 119, 97, 112]⟩ : ByteArray), (⟨#[99, 115, 100, 103]⟩ : ByteArray), (⟨#[99, 115]⟩ : ByteArray), (⟨#[99, 104]⟩ : ByteArray), (⟨#[99, 122]⟩ : ByteArray), (⟨#[99, 121]⟩ : ByteArray), (⟨#[99, 120]⟩ : ByteArray), (⟨#[119, 100, 103]⟩ : ByteArray), (⟨#[119]⟩ : ByteArray), (⟨#[118, 100, 103]⟩ : ByteArray), (⟨#[118]⟩ : ByteArray), (⟨#[116, 100, 103]⟩ : ByteArray), (⟨#[116]⟩ : ByteArray), (⟨#[115, 100, 103]⟩ : ByteArray), (⟨#[115]⟩ : ByteArray), (⟨#[104]⟩ : ByteArray), (⟨#[122]⟩ : ByteArray), (⟨#[121]⟩ : ByteArray), (⟨#[120]⟩ : ByteArray), (⟨#[105]⟩ : ByteArray)]
theorem gnames_of : gates.map (·.name) = gnames := rfl
theorem gname_or (s : ByteArray) : (∃ e ∈ gates, e.name = s) ∨ ∀ n ∈ gnames, s ≠ n := by
  by_cases h : s ∈ gnames
  · left
    rw [← gnames_of] at h
    obtain ⟨e, he, rfl⟩ := List.mem_map.1 h
    exact ⟨e, he, rfl⟩
  · right
    intro n hn e
    exact h (e ▸ hn)
set_option maxRecDepth 100000 in
theorem rarity_none (s : ByteArray) (h : ∀ n ∈ gnames, s ≠ n) (w : World) : Calls Tryz.prog 25 #[.string s] w fun x w' => x = .returned (.int .i64 0) ∧ w' = w := by
  have n0 : (s.toList == [99, 115, 119, 97, 112]) = false := ne_list s (⟨#[99, 115, 119, 97, 112]⟩ : ByteArray) [99, 115, 119, 97, 112] (by decide +kernel) (h (⟨#[99, 115, 119, 97, 112]⟩ : ByteArray) (by simp [gnames]))
  have n1 : (s.toList == [99, 99, 122]) = false := ne_list s (⟨#[99, 99, 122]⟩ : ByteArray) [99, 99, 122] (by decide +kernel) (h (⟨#[99, 99, 122]⟩ : ByteArray) (by simp [gnames]))
  have n2 : (s.toList == [99, 99, 120]) = false := ne_list s (⟨#[99, 99, 120]⟩ : ByteArray) [99, 99, 120] (by decide +kernel) (h (⟨#[99, 99, 120]⟩ : ByteArray) (by simp [gnames]))
  have n3 : (s.toList == [105, 115, 119, 97, 112, 100, 103]) = false := ne_list s (⟨#[105, 115, 119, 97, 112, 100, 103]⟩ : ByteArray) [105, 115, 119, 97, 112, 100, 103] (by decide +kernel) (h (⟨#[105, 115, 119, 97, 112, 100, 103]⟩ : ByteArray) (by simp [gnames]))
  have n4 : (s.toList == [105, 115, 119, 97, 112]) = false := ne_list s (⟨#[105, 115, 119, 97, 112]⟩ : ByteArray) [105, 115, 119, 97, 112] (by decide +kernel) (h (⟨#[105, 115, 119, 97, 112]⟩ : ByteArray) (by simp [gnames]))
  have n5 : (s.toList == [115, 119, 97, 112]) = false := ne_list s (⟨#[115, 119, 97, 112]⟩ : ByteArray) [115, 119, 97, 112] (by decide +kernel) (h (⟨#[115, 119, 97, 112]⟩ : ByteArray) (by simp [gnames]))
  have n6 : (s.toList == [99, 115, 100, 103]) = false := ne_list s (⟨#[99, 115, 100, 103]⟩ : ByteArray) [99, 115, 100, 103] (by decide +kernel) (h (⟨#[99, 115, 100, 103]⟩ : ByteArray) (by simp [gnames]))
  have n7 : (s.toList == [99, 115]) = false := ne_list s (⟨#[99, 115]⟩ : ByteArray) [99, 115] (by decide +kernel) (h (⟨#[99, 115]⟩ : ByteArray) (by simp [gnames]))
  have n8 : (s.toList == [99, 104]) = false := ne_list s (⟨#[99, 104]⟩ : ByteArray) [99, 104] (by decide +kernel) (h (⟨#[99, 104]⟩ : ByteArray) (by simp [gnames]))
  have n9 : (s.toList == [99, 122]) = false := ne_list s (⟨#[99, 122]⟩ : ByteArray) [99, 122] (by decide +kernel) (h (⟨#[99, 122]⟩ : ByteArray) (by simp [gnames]))
  have n10 : (s.toList == [99, 121]) = false := ne_list s (⟨#[99, 121]⟩ : ByteArray) [99, 121] (by decide +kernel) (h (⟨#[99, 121]⟩ : ByteArray) (by simp [gnames]))
  have n11 : (s.toList == [99, 120]) = false := ne_list s (⟨#[99, 120]⟩ : ByteArray) [99, 120] (by decide +kernel) (h (⟨#[99, 120]⟩ : ByteArray) (by simp [gnames]))
  have n12 : (s.toList == [119, 100, 103]) = false := ne_list s (⟨#[119, 100, 103]⟩ : ByteArray) [119, 100, 103] (by decide +kernel) (h (⟨#[119, 100, 103]⟩ : ByteArray) (by simp [gnames]))
  have n13 : (s.toList == [119]) = false := ne_list s (⟨#[119]⟩ : ByteArray) [119] (by decide +kernel) (h (⟨#[119]⟩ : ByteArray) (by simp [gnames]))
  have n14 : (s.toList == [118, 100, 103]) = false := ne_list s (⟨#[118, 100, 103]⟩ : ByteArray) [118, 100, 103] (by decide +kernel) (h (⟨#[118, 100, 103]⟩ : ByteArray) (by simp [gnames]))
  have n15 : (s.toList == [118]) = false := ne_list s (⟨#[118]⟩ : ByteArray) [118] (by decide +kernel) (h (⟨#[118]⟩ : ByteArray) (by simp [gnames]))
  have n16 : (s.toList == [116, 100, 103]) = false := ne_list s (⟨#[116, 100, 103]⟩ : ByteArray) [116, 100, 103] (by decide +kernel) (h (⟨#[116, 100, 103]⟩ : ByteArray) (by simp [gnames]))
  have n17 : (s.toList == [116]) = false := ne_list s (⟨#[116]⟩ : ByteArray) [116] (by decide +kernel) (h (⟨#[116]⟩ : ByteArray) (by simp [gnames]))
  have n18 : (s.toList == [115, 100, 103]) = false := ne_list s (⟨#[115, 100, 103]⟩ : ByteArray) [115, 100, 103] (by decide +kernel) (h (⟨#[115, 100, 103]⟩ : ByteArray) (by simp [gnames]))
  have n19 : (s.toList == [115]) = false := ne_list s (⟨#[115]⟩ : ByteArray) [115] (by decide +kernel) (h (⟨#[115]⟩ : ByteArray) (by simp [gnames]))
  have n20 : (s.toList == [104]) = false := ne_list s (⟨#[104]⟩ : ByteArray) [104] (by decide +kernel) (h (⟨#[104]⟩ : ByteArray) (by simp [gnames]))
  have n21 : (s.toList == [122]) = false := ne_list s (⟨#[122]⟩ : ByteArray) [122] (by decide +kernel) (h (⟨#[122]⟩ : ByteArray) (by simp [gnames]))
  have n22 : (s.toList == [121]) = false := ne_list s (⟨#[121]⟩ : ByteArray) [121] (by decide +kernel) (h (⟨#[121]⟩ : ByteArray) (by simp [gnames]))
  have n23 : (s.toList == [120]) = false := ne_list s (⟨#[120]⟩ : ByteArray) [120] (by decide +kernel) (h (⟨#[120]⟩ : ByteArray) (by simp [gnames]))
  have n24 : (s.toList == [105]) = false := ne_list s (⟨#[105]⟩ : ByteArray) [105] (by decide +kernel) (h (⟨#[105]⟩ : ByteArray) (by simp [gnames]))
  clear h
  go_enter Tryz.func25, Tryz.ntmps25
  go_wp2_with fail
  go_ret
  exact ⟨rfl, rfl⟩
set_option maxRecDepth 100000 in
theorem rinverse_none (s : ByteArray) (h : ∀ n ∈ gnames, s ≠ n) (w : World) : Calls Tryz.prog 7 #[.string s] w fun x w' => x = .returned (.tuple #[.string ⟨#[]⟩, .int .i64 80]) ∧ w' = w := by
  have g := rarity_none s h
  have n0 : (s.toList == [99, 115, 119, 97, 112]) = false := ne_list s (⟨#[99, 115, 119, 97, 112]⟩ : ByteArray) [99, 115, 119, 97, 112] (by decide +kernel) (h (⟨#[99, 115, 119, 97, 112]⟩ : ByteArray) (by simp [gnames]))
  have n1 : (s.toList == [99, 99, 122]) = false := ne_list s (⟨#[99, 99, 122]⟩ : ByteArray) [99, 99, 122] (by decide +kernel) (h (⟨#[99, 99, 122]⟩ : ByteArray) (by simp [gnames]))
  have n2 : (s.toList == [99, 99, 120]) = false := ne_list s (⟨#[99, 99, 120]⟩ : ByteArray) [99, 99, 120] (by decide +kernel) (h (⟨#[99, 99, 120]⟩ : ByteArray) (by simp [gnames]))
  have n3 : (s.toList == [105, 115, 119, 97, 112, 100, 103]) = false := ne_list s (⟨#[105, 115, 119, 97, 112, 100, 103]⟩ : ByteArray) [105, 115, 119, 97, 112, 100, 103] (by decide +kernel) (h (⟨#[105, 115, 119, 97, 112, 100, 103]⟩ : ByteArray) (by simp [gnames]))
  have n4 : (s.toList == [105, 115, 119, 97, 112]) = false := ne_list s (⟨#[105, 115, 119, 97, 112]⟩ : ByteArray) [105, 115, 119, 97, 112] (by decide +kernel) (h (⟨#[105, 115, 119, 97, 112]⟩ : ByteArray) (by simp [gnames]))
  have n5 : (s.toList == [115, 119, 97, 112]) = false := ne_list s (⟨#[115, 119, 97, 112]⟩ : ByteArray) [115, 119, 97, 112] (by decide +kernel) (h (⟨#[115, 119, 97, 112]⟩ : ByteArray) (by simp [gnames]))
  have n6 : (s.toList == [99, 115, 100, 103]) = false := ne_list s (⟨#[99, 115, 100, 103]⟩ : ByteArray) [99, 115, 100, 103] (by decide +kernel) (h (⟨#[99, 115, 100, 103]⟩ : ByteArray) (by simp [gnames]))
  have n7 : (s.toList == [99, 115]) = false := ne_list s (⟨#[99, 115]⟩ : ByteArray) [99, 115] (by decide +kernel) (h (⟨#[99, 115]⟩ : ByteArray) (by simp [gnames]))
  have n8 : (s.toList == [99, 104]) = false := ne_list s (⟨#[99, 104]⟩ : ByteArray) [99, 104] (by decide +kernel) (h (⟨#[99, 104]⟩ : ByteArray) (by simp [gnames]))
  have n9 : (s.toList == [99, 122]) = false := ne_list s (⟨#[99, 122]⟩ : ByteArray) [99, 122] (by decide +kernel) (h (⟨#[99, 122]⟩ : ByteArray) (by simp [gnames]))
  have n10 : (s.toList == [99, 121]) = false := ne_list s (⟨#[99, 121]⟩ : ByteArray) [99, 121] (by decide +kernel) (h (⟨#[99, 121]⟩ : ByteArray) (by simp [gnames]))
  have n11 : (s.toList == [99, 120]) = false := ne_list s (⟨#[99, 120]⟩ : ByteArray) [99, 120] (by decide +kernel) (h (⟨#[99, 120]⟩ : ByteArray) (by simp [gnames]))
  have n12 : (s.toList == [119, 100, 103]) = false := ne_list s (⟨#[119, 100, 103]⟩ : ByteArray) [119, 100, 103] (by decide +kernel) (h (⟨#[119, 100, 103]⟩ : ByteArray) (by simp [gnames]))
  have n13 : (s.toList == [119]) = false := ne_list s (⟨#[119]⟩ : ByteArray) [119] (by decide +kernel) (h (⟨#[119]⟩ : ByteArray) (by simp [gnames]))
  have n14 : (s.toList == [118, 100, 103]) = false := ne_list s (⟨#[118, 100, 103]⟩ : ByteArray) [118, 100, 103] (by decide +kernel) (h (⟨#[118, 100, 103]⟩ : ByteArray) (by simp [gnames]))
  have n15 : (s.toList == [118]) = false := ne_list s (⟨#[118]⟩ : ByteArray) [118] (by decide +kernel) (h (⟨#[118]⟩ : ByteArray) (by simp [gnames]))
  have n16 : (s.toList == [116, 100, 103]) = false := ne_list s (⟨#[116, 100, 103]⟩ : ByteArray) [116, 100, 103] (by decide +kernel) (h (⟨#[116, 100, 103]⟩ : ByteArray) (by simp [gnames]))
  have n17 : (s.toList == [116]) = false := ne_list s (⟨#[116]⟩ : ByteArray) [116] (by decide +kernel) (h (⟨#[116]⟩ : ByteArray) (by simp [gnames]))
  have n18 : (s.toList == [115, 100, 103]) = false := ne_list s (⟨#[115, 100, 103]⟩ : ByteArray) [115, 100, 103] (by decide +kernel) (h (⟨#[115, 100, 103]⟩ : ByteArray) (by simp [gnames]))
  have n19 : (s.toList == [115]) = false := ne_list s (⟨#[115]⟩ : ByteArray) [115] (by decide +kernel) (h (⟨#[115]⟩ : ByteArray) (by simp [gnames]))
  have n20 : (s.toList == [104]) = false := ne_list s (⟨#[104]⟩ : ByteArray) [104] (by decide +kernel) (h (⟨#[104]⟩ : ByteArray) (by simp [gnames]))
  have n21 : (s.toList == [122]) = false := ne_list s (⟨#[122]⟩ : ByteArray) [122] (by decide +kernel) (h (⟨#[122]⟩ : ByteArray) (by simp [gnames]))
  have n22 : (s.toList == [121]) = false := ne_list s (⟨#[121]⟩ : ByteArray) [121] (by decide +kernel) (h (⟨#[121]⟩ : ByteArray) (by simp [gnames]))
  have n23 : (s.toList == [120]) = false := ne_list s (⟨#[120]⟩ : ByteArray) [120] (by decide +kernel) (h (⟨#[120]⟩ : ByteArray) (by simp [gnames]))
  have n24 : (s.toList == [105]) = false := ne_list s (⟨#[105]⟩ : ByteArray) [105] (by decide +kernel) (h (⟨#[105]⟩ : ByteArray) (by simp [gnames]))
  clear h
  go_enter Tryz.func7, Tryz.ntmps7
  go_wp2_with fail
  go_at_call 25
  refine (g _).mono ?_
  rintro x w1 ⟨rfl, rfl⟩
  go_wp2_with fail
  refine bodyPost_ret (v := .tuple #[.string ⟨#[]⟩, .int .i64 80]) (by simp [results, Tryz.results7, go_sem, *]) rfl ⟨rfl, rfl⟩
set_option maxRecDepth 100000 in
theorem rinverse_cswap (w : World) : Calls Tryz.prog 7 #[.string (⟨#[99, 115, 119, 97, 112]⟩ : ByteArray)] w fun x w' => x = .returned (.tuple #[.string (⟨#[99, 115, 119, 97, 112]⟩ : ByteArray), .int .i64 0]) ∧ w' = w := by
  have g := fun w => rarity_calls e_cswap (by simp [gates]) w
  simp only [e_cswap] at g
  go_enter Tryz.func7, Tryz.ntmps7
  go_wp2_with fail
  go_at_call 25
  refine (g _).mono ?_
  rintro x w1 ⟨rfl, rfl⟩
  go_wp2_with fail
  refine bodyPost_ret (v := .tuple #[.string (⟨#[99, 115, 119, 97, 112]⟩ : ByteArray), .int .i64 0]) (by simp [results, Tryz.results7, go_sem, *]) rfl ⟨rfl, rfl⟩
set_option maxRecDepth 100000 in
theorem rinverse_ccz (w : World) : Calls Tryz.prog 7 #[.string (⟨#[99, 99, 122]⟩ : ByteArray)] w fun x w' => x = .returned (.tuple #[.string (⟨#[99, 99, 122]⟩ : ByteArray), .int .i64 0]) ∧ w' = w := by
  have g := fun w => rarity_calls e_ccz (by simp [gates]) w
  simp only [e_ccz] at g
  go_enter Tryz.func7, Tryz.ntmps7
  go_wp2_with fail
  go_at_call 25
  refine (g _).mono ?_
  rintro x w1 ⟨rfl, rfl⟩
  go_wp2_with fail
  refine bodyPost_ret (v := .tuple #[.string (⟨#[99, 99, 122]⟩ : ByteArray), .int .i64 0]) (by simp [results, Tryz.results7, go_sem, *]) rfl ⟨rfl, rfl⟩
set_option maxRecDepth 100000 in
theorem rinverse_ccx (w : World) : Calls Tryz.prog 7 #[.string (⟨#[99, 99, 120]⟩ : ByteArray)] w fun x w' => x = .returned (.tuple #[.string (⟨#[99, 99, 120]⟩ : ByteArray), .int .i64 0]) ∧ w' = w := by
  have g := fun w => rarity_calls e_ccx (by simp [gates]) w
  simp only [e_ccx] at g
  go_enter Tryz.func7, Tryz.ntmps7
  go_wp2_with fail
  go_at_call 25
  refine (g _).mono ?_
  rintro x w1 ⟨rfl, rfl⟩
  go_wp2_with fail
  refine bodyPost_ret (v := .tuple #[.string (⟨#[99, 99, 120]⟩ : ByteArray), .int .i64 0]) (by simp [results, Tryz.results7, go_sem, *]) rfl ⟨rfl, rfl⟩
set_option maxRecDepth 100000 in
theorem rinverse_iswapdg (w : World) : Calls Tryz.prog 7 #[.string (⟨#[105, 115, 119, 97, 112, 100, 103]⟩ : ByteArray)] w fun x w' => x = .returned (.tuple #[.string (⟨#[105, 115, 119, 97, 112]⟩ : ByteArray), .int .i64 0]) ∧ w' = w := by
  have hcut : ((⟨#[105, 115, 119, 97, 112, 100, 103]⟩ : ByteArray)).extract 0 5 = (⟨#[105, 115, 119, 97, 112]⟩ : ByteArray) := by decide +kernel
  go_enter Tryz.func7, Tryz.ntmps7
  go_wp2_with fail
  refine bodyPost_ret (v := .tuple #[.string (⟨#[105, 115, 119, 97, 112]⟩ : ByteArray), .int .i64 0]) (by simp [results, Tryz.results7, go_sem, *]) rfl ⟨rfl, rfl⟩
set_option maxRecDepth 100000 in
theorem rinverse_iswap (w : World) : Calls Tryz.prog 7 #[.string (⟨#[105, 115, 119, 97, 112]⟩ : ByteArray)] w fun x w' => x = .returned (.tuple #[.string (⟨#[105, 115, 119, 97, 112, 100, 103]⟩ : ByteArray), .int .i64 0]) ∧ w' = w := by
  have hcat : ((⟨#[105, 115, 119, 97, 112]⟩ : ByteArray) ++ (⟨#[100, 103]⟩ : ByteArray) : ByteArray) = (⟨#[105, 115, 119, 97, 112, 100, 103]⟩ : ByteArray) := by decide +kernel
  go_enter Tryz.func7, Tryz.ntmps7
  go_wp2_with fail
  refine bodyPost_ret (v := .tuple #[.string (⟨#[105, 115, 119, 97, 112, 100, 103]⟩ : ByteArray), .int .i64 0]) (by simp [results, Tryz.results7, go_sem, *]) rfl ⟨rfl, rfl⟩
set_option maxRecDepth 100000 in
theorem rinverse_swap (w : World) : Calls Tryz.prog 7 #[.string (⟨#[115, 119, 97, 112]⟩ : ByteArray)] w fun x w' => x = .returned (.tuple #[.string (⟨#[115, 119, 97, 112]⟩ : ByteArray), .int .i64 0]) ∧ w' = w := by
  have g := fun w => rarity_calls e_swap (by simp [gates]) w
  simp only [e_swap] at g
  go_enter Tryz.func7, Tryz.ntmps7
  go_wp2_with fail
  go_at_call 25
  refine (g _).mono ?_
  rintro x w1 ⟨rfl, rfl⟩
  go_wp2_with fail
  refine bodyPost_ret (v := .tuple #[.string (⟨#[115, 119, 97, 112]⟩ : ByteArray), .int .i64 0]) (by simp [results, Tryz.results7, go_sem, *]) rfl ⟨rfl, rfl⟩
set_option maxRecDepth 100000 in
theorem rinverse_csdg (w : World) : Calls Tryz.prog 7 #[.string (⟨#[99, 115, 100, 103]⟩ : ByteArray)] w fun x w' => x = .returned (.tuple #[.string (⟨#[99, 115]⟩ : ByteArray), .int .i64 0]) ∧ w' = w := by
  have hcut : ((⟨#[99, 115, 100, 103]⟩ : ByteArray)).extract 0 2 = (⟨#[99, 115]⟩ : ByteArray) := by decide +kernel
  go_enter Tryz.func7, Tryz.ntmps7
  go_wp2_with fail
  refine bodyPost_ret (v := .tuple #[.string (⟨#[99, 115]⟩ : ByteArray), .int .i64 0]) (by simp [results, Tryz.results7, go_sem, *]) rfl ⟨rfl, rfl⟩
set_option maxRecDepth 100000 in
theorem rinverse_cs (w : World) : Calls Tryz.prog 7 #[.string (⟨#[99, 115]⟩ : ByteArray)] w fun x w' => x = .returned (.tuple #[.string (⟨#[99, 115, 100, 103]⟩ : ByteArray), .int .i64 0]) ∧ w' = w := by
  have hcat : ((⟨#[99, 115]⟩ : ByteArray) ++ (⟨#[100, 103]⟩ : ByteArray) : ByteArray) = (⟨#[99, 115, 100, 103]⟩ : ByteArray) := by decide +kernel
  go_enter Tryz.func7, Tryz.ntmps7
  go_wp2_with fail
  refine bodyPost_ret (v := .tuple #[.string (⟨#[99, 115, 100, 103]⟩ : ByteArray), .int .i64 0]) (by simp [results, Tryz.results7, go_sem, *]) rfl ⟨rfl, rfl⟩
set_option maxRecDepth 100000 in
theorem rinverse_ch (w : World) : Calls Tryz.prog 7 #[.string (⟨#[99, 104]⟩ : ByteArray)] w fun x w' => x = .returned (.tuple #[.string (⟨#[99, 104]⟩ : ByteArray), .int .i64 0]) ∧ w' = w := by
  have g := fun w => rarity_calls e_ch (by simp [gates]) w
  simp only [e_ch] at g
  go_enter Tryz.func7, Tryz.ntmps7
  go_wp2_with fail
  go_at_call 25
  refine (g _).mono ?_
  rintro x w1 ⟨rfl, rfl⟩
  go_wp2_with fail
  refine bodyPost_ret (v := .tuple #[.string (⟨#[99, 104]⟩ : ByteArray), .int .i64 0]) (by simp [results, Tryz.results7, go_sem, *]) rfl ⟨rfl, rfl⟩
set_option maxRecDepth 100000 in
theorem rinverse_cz (w : World) : Calls Tryz.prog 7 #[.string (⟨#[99, 122]⟩ : ByteArray)] w fun x w' => x = .returned (.tuple #[.string (⟨#[99, 122]⟩ : ByteArray), .int .i64 0]) ∧ w' = w := by
  have g := fun w => rarity_calls e_cz (by simp [gates]) w
  simp only [e_cz] at g
  go_enter Tryz.func7, Tryz.ntmps7
  go_wp2_with fail
  go_at_call 25
  refine (g _).mono ?_
  rintro x w1 ⟨rfl, rfl⟩
  go_wp2_with fail
  refine bodyPost_ret (v := .tuple #[.string (⟨#[99, 122]⟩ : ByteArray), .int .i64 0]) (by simp [results, Tryz.results7, go_sem, *]) rfl ⟨rfl, rfl⟩
set_option maxRecDepth 100000 in
theorem rinverse_cy (w : World) : Calls Tryz.prog 7 #[.string (⟨#[99, 121]⟩ : ByteArray)] w fun x w' => x = .returned (.tuple #[.string (⟨#[99, 121]⟩ : ByteArray), .int .i64 0]) ∧ w' = w := by
  have g := fun w => rarity_calls e_cy (by simp [gates]) w
  simp only [e_cy] at g
  go_enter Tryz.func7, Tryz.ntmps7
  go_wp2_with fail
  go_at_call 25
  refine (g _).mono ?_
  rintro x w1 ⟨rfl, rfl⟩
  go_wp2_with fail
  refine bodyPost_ret (v := .tuple #[.string (⟨#[99, 121]⟩ : ByteArray), .int .i64 0]) (by simp [results, Tryz.results7, go_sem, *]) rfl ⟨rfl, rfl⟩
set_option maxRecDepth 100000 in
theorem rinverse_cx (w : World) : Calls Tryz.prog 7 #[.string (⟨#[99, 120]⟩ : ByteArray)] w fun x w' => x = .returned (.tuple #[.string (⟨#[99, 120]⟩ : ByteArray), .int .i64 0]) ∧ w' = w := by
  have g := fun w => rarity_calls e_cx (by simp [gates]) w
  simp only [e_cx] at g
  go_enter Tryz.func7, Tryz.ntmps7
  go_wp2_with fail
  go_at_call 25
  refine (g _).mono ?_
  rintro x w1 ⟨rfl, rfl⟩
  go_wp2_with fail
  refine bodyPost_ret (v := .tuple #[.string (⟨#[99, 120]⟩ : ByteArray), .int .i64 0]) (by simp [results, Tryz.results7, go_sem, *]) rfl ⟨rfl, rfl⟩
set_option maxRecDepth 100000 in
theorem rinverse_wdg (w : World) : Calls Tryz.prog 7 #[.string (⟨#[119, 100, 103]⟩ : ByteArray)] w fun x w' => x = .returned (.tuple #[.string (⟨#[119]⟩ : ByteArray), .int .i64 0]) ∧ w' = w := by
  have hcut : ((⟨#[119, 100, 103]⟩ : ByteArray)).extract 0 1 = (⟨#[119]⟩ : ByteArray) := by decide +kernel
  go_enter Tryz.func7, Tryz.ntmps7
  go_wp2_with fail
  refine bodyPost_ret (v := .tuple #[.string (⟨#[119]⟩ : ByteArray), .int .i64 0]) (by simp [results, Tryz.results7, go_sem, *]) rfl ⟨rfl, rfl⟩
set_option maxRecDepth 100000 in
theorem rinverse_w (w : World) : Calls Tryz.prog 7 #[.string (⟨#[119]⟩ : ByteArray)] w fun x w' => x = .returned (.tuple #[.string (⟨#[119, 100, 103]⟩ : ByteArray), .int .i64 0]) ∧ w' = w := by
  have hcat : ((⟨#[119]⟩ : ByteArray) ++ (⟨#[100, 103]⟩ : ByteArray) : ByteArray) = (⟨#[119, 100, 103]⟩ : ByteArray) := by decide +kernel
  go_enter Tryz.func7, Tryz.ntmps7
  go_wp2_with fail
  refine bodyPost_ret (v := .tuple #[.string (⟨#[119, 100, 103]⟩ : ByteArray), .int .i64 0]) (by simp [results, Tryz.results7, go_sem, *]) rfl ⟨rfl, rfl⟩
set_option maxRecDepth 100000 in
theorem rinverse_vdg (w : World) : Calls Tryz.prog 7 #[.string (⟨#[118, 100, 103]⟩ : ByteArray)] w fun x w' => x = .returned (.tuple #[.string (⟨#[118]⟩ : ByteArray), .int .i64 0]) ∧ w' = w := by
  have hcut : ((⟨#[118, 100, 103]⟩ : ByteArray)).extract 0 1 = (⟨#[118]⟩ : ByteArray) := by decide +kernel
  go_enter Tryz.func7, Tryz.ntmps7
  go_wp2_with fail
  refine bodyPost_ret (v := .tuple #[.string (⟨#[118]⟩ : ByteArray), .int .i64 0]) (by simp [results, Tryz.results7, go_sem, *]) rfl ⟨rfl, rfl⟩
set_option maxRecDepth 100000 in
theorem rinverse_v (w : World) : Calls Tryz.prog 7 #[.string (⟨#[118]⟩ : ByteArray)] w fun x w' => x = .returned (.tuple #[.string (⟨#[118, 100, 103]⟩ : ByteArray), .int .i64 0]) ∧ w' = w := by
  have hcat : ((⟨#[118]⟩ : ByteArray) ++ (⟨#[100, 103]⟩ : ByteArray) : ByteArray) = (⟨#[118, 100, 103]⟩ : ByteArray) := by decide +kernel
  go_enter Tryz.func7, Tryz.ntmps7
  go_wp2_with fail
  refine bodyPost_ret (v := .tuple #[.string (⟨#[118, 100, 103]⟩ : ByteArray), .int .i64 0]) (by simp [results, Tryz.results7, go_sem, *]) rfl ⟨rfl, rfl⟩
set_option maxRecDepth 100000 in
theorem rinverse_tdg (w : World) : Calls Tryz.prog 7 #[.string (⟨#[116, 100, 103]⟩ : ByteArray)] w fun x w' => x = .returned (.tuple #[.string (⟨#[116]⟩ : ByteArray), .int .i64 0]) ∧ w' = w := by
  have hcut : ((⟨#[116, 100, 103]⟩ : ByteArray)).extract 0 1 = (⟨#[116]⟩ : ByteArray) := by decide +kernel
  go_enter Tryz.func7, Tryz.ntmps7
  go_wp2_with fail
  refine bodyPost_ret (v := .tuple #[.string (⟨#[116]⟩ : ByteArray), .int .i64 0]) (by simp [results, Tryz.results7, go_sem, *]) rfl ⟨rfl, rfl⟩
set_option maxRecDepth 100000 in
theorem rinverse_t (w : World) : Calls Tryz.prog 7 #[.string (⟨#[116]⟩ : ByteArray)] w fun x w' => x = .returned (.tuple #[.string (⟨#[116, 100, 103]⟩ : ByteArray), .int .i64 0]) ∧ w' = w := by
  have hcat : ((⟨#[116]⟩ : ByteArray) ++ (⟨#[100, 103]⟩ : ByteArray) : ByteArray) = (⟨#[116, 100, 103]⟩ : ByteArray) := by decide +kernel
  go_enter Tryz.func7, Tryz.ntmps7
  go_wp2_with fail
  refine bodyPost_ret (v := .tuple #[.string (⟨#[116, 100, 103]⟩ : ByteArray), .int .i64 0]) (by simp [results, Tryz.results7, go_sem, *]) rfl ⟨rfl, rfl⟩
set_option maxRecDepth 100000 in
theorem rinverse_sdg (w : World) : Calls Tryz.prog 7 #[.string (⟨#[115, 100, 103]⟩ : ByteArray)] w fun x w' => x = .returned (.tuple #[.string (⟨#[115]⟩ : ByteArray), .int .i64 0]) ∧ w' = w := by
  have hcut : ((⟨#[115, 100, 103]⟩ : ByteArray)).extract 0 1 = (⟨#[115]⟩ : ByteArray) := by decide +kernel
  go_enter Tryz.func7, Tryz.ntmps7
  go_wp2_with fail
  refine bodyPost_ret (v := .tuple #[.string (⟨#[115]⟩ : ByteArray), .int .i64 0]) (by simp [results, Tryz.results7, go_sem, *]) rfl ⟨rfl, rfl⟩
set_option maxRecDepth 100000 in
theorem rinverse_s (w : World) : Calls Tryz.prog 7 #[.string (⟨#[115]⟩ : ByteArray)] w fun x w' => x = .returned (.tuple #[.string (⟨#[115, 100, 103]⟩ : ByteArray), .int .i64 0]) ∧ w' = w := by
  have hcat : ((⟨#[115]⟩ : ByteArray) ++ (⟨#[100, 103]⟩ : ByteArray) : ByteArray) = (⟨#[115, 100, 103]⟩ : ByteArray) := by decide +kernel
  go_enter Tryz.func7, Tryz.ntmps7
  go_wp2_with fail
  refine bodyPost_ret (v := .tuple #[.string (⟨#[115, 100, 103]⟩ : ByteArray), .int .i64 0]) (by simp [results, Tryz.results7, go_sem, *]) rfl ⟨rfl, rfl⟩
set_option maxRecDepth 100000 in
theorem rinverse_h (w : World) : Calls Tryz.prog 7 #[.string (⟨#[104]⟩ : ByteArray)] w fun x w' => x = .returned (.tuple #[.string (⟨#[104]⟩ : ByteArray), .int .i64 0]) ∧ w' = w := by
  have g := fun w => rarity_calls e_h (by simp [gates]) w
  simp only [e_h] at g
  go_enter Tryz.func7, Tryz.ntmps7
  go_wp2_with fail
  go_at_call 25
  refine (g _).mono ?_
  rintro x w1 ⟨rfl, rfl⟩
  go_wp2_with fail
  refine bodyPost_ret (v := .tuple #[.string (⟨#[104]⟩ : ByteArray), .int .i64 0]) (by simp [results, Tryz.results7, go_sem, *]) rfl ⟨rfl, rfl⟩
set_option maxRecDepth 100000 in
theorem rinverse_z (w : World) : Calls Tryz.prog 7 #[.string (⟨#[122]⟩ : ByteArray)] w fun x w' => x = .returned (.tuple #[.string (⟨#[122]⟩ : ByteArray), .int .i64 0]) ∧ w' = w := by
  have g := fun w => rarity_calls e_z (by simp [gates]) w
  simp only [e_z] at g
  go_enter Tryz.func7, Tryz.ntmps7
  go_wp2_with fail
  go_at_call 25
  refine (g _).mono ?_
  rintro x w1 ⟨rfl, rfl⟩
  go_wp2_with fail
  refine bodyPost_ret (v := .tuple #[.string (⟨#[122]⟩ : ByteArray), .int .i64 0]) (by simp [results, Tryz.results7, go_sem, *]) rfl ⟨rfl, rfl⟩
set_option maxRecDepth 100000 in
theorem rinverse_y (w : World) : Calls Tryz.prog 7 #[.string (⟨#[121]⟩ : ByteArray)] w fun x w' => x = .returned (.tuple #[.string (⟨#[121]⟩ : ByteArray), .int .i64 0]) ∧ w' = w := by
  have g := fun w => rarity_calls e_y (by simp [gates]) w
  simp only [e_y] at g
  go_enter Tryz.func7, Tryz.ntmps7
  go_wp2_with fail
  go_at_call 25
  refine (g _).mono ?_
  rintro x w1 ⟨rfl, rfl⟩
  go_wp2_with fail
  refine bodyPost_ret (v := .tuple #[.string (⟨#[121]⟩ : ByteArray), .int .i64 0]) (by simp [results, Tryz.results7, go_sem, *]) rfl ⟨rfl, rfl⟩
set_option maxRecDepth 100000 in
theorem rinverse_x (w : World) : Calls Tryz.prog 7 #[.string (⟨#[120]⟩ : ByteArray)] w fun x w' => x = .returned (.tuple #[.string (⟨#[120]⟩ : ByteArray), .int .i64 0]) ∧ w' = w := by
  have g := fun w => rarity_calls e_x (by simp [gates]) w
  simp only [e_x] at g
  go_enter Tryz.func7, Tryz.ntmps7
  go_wp2_with fail
  go_at_call 25
  refine (g _).mono ?_
  rintro x w1 ⟨rfl, rfl⟩
  go_wp2_with fail
  refine bodyPost_ret (v := .tuple #[.string (⟨#[120]⟩ : ByteArray), .int .i64 0]) (by simp [results, Tryz.results7, go_sem, *]) rfl ⟨rfl, rfl⟩
set_option maxRecDepth 100000 in
theorem rinverse_i (w : World) : Calls Tryz.prog 7 #[.string (⟨#[105]⟩ : ByteArray)] w fun x w' => x = .returned (.tuple #[.string (⟨#[105]⟩ : ByteArray), .int .i64 0]) ∧ w' = w := by
  have g := fun w => rarity_calls e_i (by simp [gates]) w
  simp only [e_i] at g
  go_enter Tryz.func7, Tryz.ntmps7
  go_wp2_with fail
  go_at_call 25
  refine (g _).mono ?_
  rintro x w1 ⟨rfl, rfl⟩
  go_wp2_with fail
  refine bodyPost_ret (v := .tuple #[.string (⟨#[105]⟩ : ByteArray), .int .i64 0]) (by simp [results, Tryz.results7, go_sem, *]) rfl ⟨rfl, rfl⟩
theorem rinverse_calls (e : En) (he : e ∈ gates) (w : World) : Calls Tryz.prog 7 #[.string e.name] w fun x w' => x = .returned (.tuple #[.string e.back, .int .i64 0]) ∧ w' = w := by
  simp only [gates, List.mem_cons, List.not_mem_nil, or_false] at he
  rcases he with rfl | rfl | rfl | rfl | rfl | rfl | rfl | rfl | rfl | rfl | rfl | rfl | rfl | rfl | rfl | rfl | rfl | rfl | rfl | rfl | rfl | rfl | rfl | rfl | rfl
  · exact rinverse_cswap w
  · exact rinverse_ccz w
  · exact rinverse_ccx w
  · exact rinverse_iswapdg w
  · exact rinverse_iswap w
  · exact rinverse_swap w
  · exact rinverse_csdg w
  · exact rinverse_cs w
  · exact rinverse_ch w
  · exact rinverse_cz w
  · exact rinverse_cy w
  · exact rinverse_cx w
  · exact rinverse_wdg w
  · exact rinverse_w w
  · exact rinverse_vdg w
  · exact rinverse_v w
  · exact rinverse_tdg w
  · exact rinverse_t w
  · exact rinverse_sdg w
  · exact rinverse_s w
  · exact rinverse_h w
  · exact rinverse_z w
  · exact rinverse_y w
  · exact rinverse_x w
  · exact rinverse_i w
end Go.Proofs.YtlobgpgdknjhlaaGreat.WH
