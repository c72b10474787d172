/- dense.placed: walked. -/
import Derived.Test.YtlobgpgdknjhlaaGreatWhM
namespace Go.Proofs.YtlobgpgdknjhlaaGreat.WH
open Go Go.RowKit Go.Proofs.YtlobgpgdknjhlaaGreat.F
set_option linter.unusedVariables false
set_option linter.unusedSimpArgs false
attribute [local go_sem] run_store_complex run_store_func
theorem Ints.take {w : World} {a : Option Addr} {c : Nat} {qs : List Nat} (h : Ints w a c qs) (i : Nat) : Ints w a c (qs.take i) := by
  refine ⟨by have := h.len; rw [List.length_take]; omega, h.cap, ?_⟩
  rcases h.at_ with e | ⟨b, off, e, hc⟩
  · left; rw [e]; simp
  · right
    refine ⟨b, off, e, fun j hj => ?_⟩
    have hj' : j < qs.length := by rw [List.length_take] at hj; omega
    rw [List.getElem_take]
    exact hc j hj'
set_option maxRecDepth 100000 in
set_option maxHeartbeats 2000000 in
theorem placed_calls (e : En) (he : e ∈ gates) (n k : Nat) (sv : Option Addr) (sl sc : Nat) (a : Option Addr) (c : Nat) (qs : List Nat) (w : World) (h : Ints w a c qs) (hl : qs.length = e.ar) (hn : ∀ q ∈ qs, q < n) (hd : qs.Nodup) : Calls Tryz.prog 52 #[.agg #[.int .i64 n, .int .i64 k, .slice sv sl sc], .string e.name, .slice a qs.length c] w fun x w' => x = .returned (.int .i64 0) ∧ Below w.heap.size w w' := by
  have g := arity_calls e he
  have har := ar_le e he
  have hs9 := gates_size e he
  have HI := Lib.hid h
  have HN := Lib.hid hn
  have HD := Lib.hid hd
  obtain ⟨name, ar, ha, cl, di, back, f⟩ := e
  simp only at g hl har hs9
  have hl1 : 1 ≤ qs.length := by omega
  have hl3 : qs.length ≤ 3 := by omega
  have hcap := h.len
  have hcap2 := h.cap
  obtain ⟨bq, oq, rfl⟩ : ∃ b o, a = some ⟨b, o, none⟩ := by
    rcases h.at_ with e | ⟨b, off, e, hc⟩
    · rw [e] at hl1; simp at hl1
    · exact ⟨b, off, e⟩
  clear h hn hd
  subst hl
  go_enter Tryz.func52, Tryz.ntmps52
  go_wp2_with fail
  go_at_call 69
  refine (g _).mono ?_
  rintro x w1 ⟨rfl, hb⟩
  have HB := Lib.hid (((below1 w (.cells #[.int .i64 n, .int .i64 k, .slice sv sl sc] 37)).mono (Nat.le_refl _)).trans (hb.mono (below1 w _).size))
  have kn : w1.cell? ⟨w.heap.size, 0, none⟩ = some (.int .i64 n) := (hb.cell (p := ⟨w.heap.size, 0, none⟩) (by simp)).trans (cell_at (newB _ _ rfl) rfl)
  have HI2 := Lib.hid ((HI.out.below (below1 w (.cells #[.int .i64 n, .int .i64 k, .slice sv sl sc] 37))).below hb)
  clear hb HI g he
  have hne : ((qs.length : Int) == 0) = false := by rw [beq_eq_false_iff_ne]; omega
  go_wp2_with fail
  go_loopw [9, 24] (fun _ k W => ∃ j : Nat, j ≤ qs.length ∧ k = .int .i64 j ∧ W = w1) (fun _ k _ => qs.length - (intOf k).toNat)
  case atStart => exact ⟨0, Nat.zero_le _, rfl, rfl⟩
  case round =>
    obtain ⟨j, hj, rfl, rfl⟩ := hrel
    by_cases hlt : j < qs.length
    · obtain ⟨b, o, hbl, hidx, hc⟩ := HI2.out.at j hlt
      have hq := HN.out _ (List.getElem_mem hlt)
      generalize qs[j] = q at *
      have hq0 : decide ((q : Int) < 0) = false := decide_eq_false (by omega)
      have hq1 : decide ((n : Int) ≤ (q : Int)) = false := decide_eq_false (by omega)
      go_wp2_with fail
      go_roundw
      case rel => exact ⟨j + 1, by omega, by go_num, by first | rfl | trivial⟩
      case measure => simp [intOf]; omega
    · obtain rfl : j = qs.length := by omega
      go_wp2_with fail
      go_loopw [10, 11, 13, 39, 44, 45, 46, 47, 48] (fun _ _ _ k _ _ _ _ _ W => ∃ j : Nat, j ≤ qs.length ∧ k = .int .i64 j ∧ W = wr) (fun _ _ _ k _ _ _ _ _ _ => qs.length - (intOf k).toNat)
      case atStart => exact ⟨0, Nat.zero_le _, rfl, rfl⟩
      case round =>
        obtain ⟨j, hj, rfl, rfl⟩ := hrel
        by_cases hlt : j < qs.length
        · obtain ⟨b, o, hbl, hidx, hc⟩ := HI2.out.at j hlt
          have HT := Lib.hid (HI2.out.take j)
          have HNE : Hid (∀ i (h : i < (qs.take j).length), (qs.take j)[i] ≠ qs[j]) := Lib.hid fun i h e => by
            exact List.Nodup.not_mem_take HD.out hlt (e ▸ List.getElem_mem h)
          have hTl : (qs.take j).length = j := by rw [List.length_take]; omega
          generalize qs[j] = q at *
          generalize qs.take j = ps at *
          subst hTl
          go_wp2_with fail
          clear hidx
          go_loopw [13, 48] (fun _ k W => ∃ i : Nat, i ≤ ps.length ∧ k = .int .i64 i ∧ W = wr) (fun _ k _ => ps.length - (intOf k).toNat)
          case atStart => exact ⟨0, Nat.zero_le _, rfl, rfl⟩
          case round =>
            obtain ⟨i, hi, rfl, rfl⟩ := hrel
            by_cases hlt2 : i < ps.length
            · obtain ⟨b', o', hbl', hidx', hc'⟩ := HT.out.at i hlt2
              have hne2 := HNE.out i hlt2
              generalize ps[i] = p at *
              have hpq : ((p : Int) == (q : Int)) = false := by rw [beq_eq_false_iff_ne]; omega
              go_wp2_with fail
              go_roundw
              case rel => exact ⟨i + 1, by omega, by go_num, by first | rfl | trivial⟩
              case measure => simp [intOf]; omega
            · obtain rfl : i = ps.length := by omega
              go_wp2_with fail
              go_roundw
              case rel => exact ⟨ps.length + 1, by omega, by go_num, by first | rfl | trivial⟩
              case measure => simp [intOf]; omega
        · obtain rfl : j = qs.length := by omega
          go_wp2_with fail
          go_ret
          exact ⟨rfl, HB.out⟩
end Go.Proofs.YtlobgpgdknjhlaaGreat.WH
