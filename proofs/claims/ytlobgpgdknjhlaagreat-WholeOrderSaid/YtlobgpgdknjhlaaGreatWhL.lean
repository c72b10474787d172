/- Rows of ring elements; dense.halvable: walked. -/
import Derived.Test.YtlobgpgdknjhlaaGreatWhK
namespace Go.Proofs.YtlobgpgdknjhlaaGreat.WH
open Go Go.RowKit Go.Proofs.YtlobgpgdknjhlaaGreat.F
set_option linter.unusedVariables false
set_option linter.unusedSimpArgs false
attribute [local go_sem] run_store_complex run_real run_imag run_complex run_fneg
/-- The two cells of an element. -/
def Cell2 (W : World) (b o : Nat) (r : Rg) : Prop := W.cell? ⟨b, o, none⟩ = some (.complex .f64 (Fl r.a) (Fl r.b)) ∧ W.cell? ⟨b, o + 1, none⟩ = some (.complex .f64 (Fl r.c) (Fl r.d))
/-- A slice of elements. -/
structure Rings (w : World) (a : Option Addr) (c : Nat) (rs : List Rg) : Prop where
  len : rs.length ≤ c
  cap : c ≤ 9223372036854775807
  pt : ∀ r ∈ rs, r.Pt
  at_ : rs = [] ∨ ∃ b off, a = some ⟨b, off, none⟩ ∧ ∀ (j : Nat) (h : j < rs.length), Cell2 w b (off + j * 2) rs[j]
theorem Cell2.below {w w' : World} {b o : Nat} {r : Rg} (h : Cell2 w b o r) (hb : Below w.heap.size w w') : Cell2 w' b o r :=
  ⟨(hb.cell (p := ⟨b, o, none⟩) (block_lt h.1)).trans h.1, (hb.cell (p := ⟨b, o + 1, none⟩) (block_lt h.1)).trans h.2⟩
theorem Rings.below {w w' : World} {a : Option Addr} {c : Nat} {rs : List Rg} (h : Rings w a c rs) (hb : Below w.heap.size w w') : Rings w' a c rs :=
  { h with at_ := h.at_.imp id fun ⟨b, off, ha, hc⟩ => ⟨b, off, ha, fun j hj => (hc j hj).below hb⟩ }
theorem Rings.at {w : World} {a : Option Addr} {c : Nat} {rs : List Rg} (h : Rings w a c rs) (j : Nat) (hj : j < rs.length) :
    ∃ b o, b < w.heap.size ∧ (∀ W, (Instr.indexAt 35 (Value.slice a rs.length c) (.int .i64 j)).run Tryz.prog W = .ok (.pointer (some ⟨b, o, none⟩)) W) ∧ Cell2 w b o rs[j] := by
  rcases h.at_ with rfl | ⟨b, off, rfl, hc⟩
  · simp at hj
  · refine ⟨b, off + j * 2, block_lt (hc j hj).1, fun W => ?_, hc j hj⟩
    have hs : ∀ W, (Go.sizeOf (Tryz.prog.elem 35)).run Tryz.prog W = .ok 2 W := fun _ => by kernel_rfl
    rw [run_indexAt_slice _ 35 _ _ _ _ _ (by kernel_rfl), if_pos ⟨by omega, by exact_mod_cast hj⟩, hs]
    simp [Result.andThen, Addr.add]
set_option maxRecDepth 100000 in
set_option maxHeartbeats 2000000 in
theorem halvable_calls (a : Option Addr) (c : Nat) (rs : List Rg) (w : World) (h : Rings w a c rs) (v : Bool) (hv : v = true ↔ ∀ r ∈ rs, evn r = true) : Calls Tryz.prog 64 #[.slice a rs.length c] w fun e w' => e = .returned (.bool v) ∧ Below w.heap.size w w' := by
  have HI := Lib.hid h
  have HV := Lib.hid hv
  have hlc : (rs.length : Int) ≤ 9223372036854775807 := by have := h.len; have := h.cap; omega
  clear h hv
  go_enter Tryz.func64, Tryz.ntmps64
  go_wp2_with fail
  go_loopw [10] (fun k W => ∃ j : Nat, j ≤ rs.length ∧ k = .int .i64 j ∧ (∀ i (h : i < rs.length), i < j → evn rs[i] = true) ∧ Below w.heap.size w W) (fun k _ => rs.length - (intOf k).toNat)
  case atStart => exact ⟨0, Nat.zero_le _, rfl, fun i h hi => absurd hi (Nat.not_lt_zero _), Below.refl _ _⟩
  case round =>
    obtain ⟨j, hj, rfl, hall, hbw⟩ := hrel
    have HALL := Lib.hid hall
    have HB := Lib.hid hbw
    clear hall hbw
    by_cases hlt : j < rs.length
    · obtain ⟨b, o, hbl, hidx, c0, c1⟩ := (HI.out.below HB.out).at j hlt
      have hpt := HI.out.pt _ (List.getElem_mem hlt)
      have HJ : Hid (evn rs[j] = true → ∀ i (h : i < rs.length), i < j + 1 → evn rs[i] = true) := Lib.hid fun h i hi hij => by
        by_cases e : i = j
        · subst e; exact h
        · exact HALL.out i hi (by omega)
      have HN : Hid (evn rs[j] = false → v = false) := Lib.hid fun h => by
        cases hvv : v
        · rfl
        · have := HV.out.1 hvv _ (List.getElem_mem hlt)
          rw [h] at this
          cases this
      have gy := fun (he : evn rs[j] = true) w => rhalve_yes rs[j] hpt he w
      have gn := fun (he : evn rs[j] = false) w => rhalve_no rs[j] hpt he w
      generalize rs[j] = r at *
      cases he : evn r with
      | true =>
        have HJ2 := Lib.hid (HJ.out he)
        have g := gy he
        clear gy gn he HJ HN hpt
        generalize halveR r = h at *
        generalize Fl r.a = x at *
        generalize Fl r.b = y at *
        generalize Fl r.c = z at *
        generalize Fl r.d = t at *
        generalize Fl h.a = x' at *
        generalize Fl h.b = y' at *
        generalize Fl h.c = z' at *
        generalize Fl h.d = t' at *
        go_wp2_with fail
        go_at_call 79
        refine (g _).mono ?_
        rintro e w1 ⟨rfl, hb⟩
        have HB2 := Lib.hid (((HB.out.trans ((below1 wr (.cells #[.complex .f64 x y, .complex .f64 z t] 65)).mono HB.out.size)).trans (hb.mono (Nat.le_trans HB.out.size (below1 wr _).size))).trans ((below1 w1 (.cells #[.complex .f64 x' y', .complex .f64 z' t'] 65)).mono (Nat.le_trans (Nat.le_trans HB.out.size (below1 wr _).size) hb.size)))
        clear hb
        go_wp2_with fail
        go_roundw
        case rel => exact ⟨j + 1, by omega, by go_num, HJ2.out, HB2.out⟩
        case measure => simp [intOf]; omega
      | false =>
        have hv0 := HN.out he
        have g := gn he
        subst hv0
        clear gy gn he HJ HN hpt
        generalize Fl r.a = x at *
        generalize Fl r.b = y at *
        generalize Fl r.c = z at *
        generalize Fl r.d = t at *
        go_wp2_with fail
        go_at_call 79
        refine (g _).mono ?_
        rintro e w1 ⟨rfl, hb⟩
        have HB2 := Lib.hid (((HB.out.trans ((below1 wr (.cells #[.complex .f64 x y, .complex .f64 z t] 65)).mono HB.out.size)).trans (hb.mono (Nat.le_trans HB.out.size (below1 wr _).size))).trans ((below1 w1 (.cells #[.complex .f64 0 0, .complex .f64 0 0] 65)).mono (Nat.le_trans (Nat.le_trans HB.out.size (below1 wr _).size) hb.size)))
        clear hb
        go_wp2_with fail
        go_ret
        exact ⟨rfl, HB2.out⟩
    · obtain rfl : j = rs.length := by omega
      have hv1 : v = true := HV.out.2 fun r hr => by
        obtain ⟨i, hi, rfl⟩ := List.mem_iff_getElem.1 hr
        exact HALL.out i hi hi
      subst hv1
      go_wp2_with fail
      go_ret
      exact ⟨rfl, HB.out⟩
end Go.Proofs.YtlobgpgdknjhlaaGreat.WH
