/- sparse's Terms at the two-element map: two terms; walked. -/
import Derived.Test.YtlobgpgdknjhlaaGreatWhAI
namespace Go.Proofs.YtlobgpgdknjhlaaGreat.WH
open Go Go.RowKit Go.Maps Go.Proofs.YtlobgpgdknjhlaaGreat.F
set_option linter.unusedVariables false
set_option linter.unusedSimpArgs false
attribute [local go_sem] run_store_complex run_store_func
/-- Whatever the key, an element. -/
theorem lookD2 {W : World} {b n : Nat} (h : W.ownsMap Tryz.prog 23 rd b n D2) (x : Int) (hx : (Lit.int .u64 x).wf = true) : ∃ p q r s : Nat, (Instr.lookup 91 (.map (some b)) (.int .u64 x) false).run Tryz.prog W = .ok (.agg #[.complex .f64 p q, .complex .f64 r s]) W := by
  obtain ⟨v, ps, hr, hv⟩ := h.lookup law23 Tryz.underlying91 (zero65 W) (zd := .held (.agg #[.complex .f64 0 0, .complex .f64 0 0])) (zp := []) rfl (key := .int .u64 x) (keyOf_int_mk Tryz.underlying23 hx)
  by_cases hh : Maps.has D2 (.int .u64 x) = true
  · rw [d2_at _ hh] at hv
    rw [held_inj hv] at hr
    exact ⟨_, _, _, _, hr⟩
  · rw [Maps.atKey_of_not_has (Bool.eq_false_iff.2 hh)] at hv
    rw [held_inj hv] at hr
    exact ⟨_, _, _, _, hr⟩
theorem bd123 (x : Int) (p q r s : Nat) (w : World) : (Instr.build 123 #[(0, .int .u64 x), (1, .agg #[.complex .f64 p q, .complex .f64 r s])]).run Tryz.prog w = .ok (.agg #[.int .u64 x, .complex .f64 p q, .complex .f64 r s]) w := run_build w 123 _ _ (by kernel_rfl)
set_option maxRecDepth 100000 in
set_option maxHeartbeats 2000000 in
theorem terms_calls (bm b n : Nat) (w : World) (h : Spr w bm b 1 1 n D2) : Calls Tryz.prog 24 #[.pointer (some ⟨bm, 0, none⟩)] w fun e w' => ∃ a c, e = .returned (.slice a 2 c) ∧ Below w.heap.size w w' := by
  have HBX := Lib.hid h.box
  have HO := Lib.hid h.own
  have m2 := cell_at (i := 2) h.box rfl
  obtain ⟨i0, hi, hz0, hz1, hz2⟩ : ∃ i, Tryz.prog.info? 123 = some i ∧ i.zero = some (.agg #[.int .u64 0, .complex .f64 0 0, .complex .f64 0 0]) ∧ i.size = 3 ∧ i.bytes = 40 := ⟨_, rfl, rfl, rfl, rfl⟩
  have hbd := bd123
  clear h
  go_enter Tryz.func24, Tryz.ntmps24
  go_wp2_with fail
  go_at_call 58
  refine (keys_calls b w).mono ?_
  rintro e w1 ⟨Bm, rfl, hm, hb1⟩
  have HB1 := Lib.hid hb1
  have HM := Lib.hid hm
  have HO1 : Hid (w1.ownsMap Tryz.prog 23 rd b n D2) := Lib.hid (HO.out.kept (row := none) (Below.grownBy hb1) (by simp))
  clear hm hb1 m2
  go_wp2_with fail
  go_at_call 57
  refine (sorted_calls Bm b n w1 HM.out HO1.out).mono ?_
  rintro e w2 ⟨g, c, x, y, rfl, hwf, c0, c1, hb2⟩
  have HB2 := Lib.hid (HB1.out.trans (hb2.mono HB1.out.size))
  have HO2 : Hid (w2.ownsMap Tryz.prog 23 rd b n D2) := Lib.hid (HO1.out.kept (row := none) (Below.grownBy hb2) (by simp))
  have HC := Lib.hid (And.intro c0 c1)
  have HW := Lib.hid hwf
  clear hb2 HB1 HM HO1 c0 c1 hwf
  go_wp2_with fail
  go_loopw [3, 5, 15] (fun v _ k W => ∃ (i : Nat) (xs : List Value) (u : Value), v = u ∧ i ≤ 2 ∧ k = .int .i64 i ∧ W.ownsRow w2.heap.size 123 3 u i xs ∧ Below w2.heap.size w2 W) (fun _ _ k _ => 2 - (intOf k).toNat)
  case atStart => exact ⟨0, [], _, rfl, by decide, rfl, World.ownsRow_nil _ _ _ _, Below.refl _ _⟩
  case round =>
    obtain ⟨i, xs, v, rfl, hi2, rfl, hrow, hbw⟩ := hrel
    have HR := Lib.hid hrow
    have HBW := Lib.hid hbw
    clear hrow hbw
    by_cases hlt : i < 2
    · obtain ⟨z, hz, hzw⟩ : ∃ z : Int, wr.cell? ⟨g, i, none⟩ = some (.int .u64 z) ∧ (Lit.int .u64 z).wf = true := by
        have h : i = 0 ∨ i = 1 := by omega
        rcases h with rfl | rfl
        · exact ⟨x, (HBW.out.cell (p := ⟨g, 0, none⟩) (block_lt HC.out.1)).trans HC.out.1, HW.out.1⟩
        · exact ⟨y, (HBW.out.cell (p := ⟨g, 1, none⟩) (block_lt HC.out.2)).trans HC.out.2, HW.out.2⟩
      have hidx := fun W => idx74 g c i hlt W
      have HO3 : Hid (wr.ownsMap Tryz.prog 23 rd b n D2) := Lib.hid (HO2.out.kept (row := none) (Below.grownBy HBW.out) (by simp))
      obtain ⟨p, q, r, s, hlk⟩ := lookD2 HO3.out z hzw
      have m2 := cell_at (i := 2) (Below.heap_some HBW.out (Below.heap_some HB2.out HBX.out)) rfl
      clear hzw
      go_wp2_with (at_builtin; refine wpList_append_own _ rfl _ _ 66 rfl w2.heap.size 123 i0 _ 3 40 Tryz.underlying66 hi hz0 hz1 hz2 rfl (by decide) _ _ _ rfl (HR.out.alloc _) ⟨wr.heap.size, 0, none⟩ 1 1 [.int .u64 z, .complex .f64 p q, .complex .f64 r s] rfl rfl ?c1 ?c2 ?c3 ?c4 ?c5 ?_)
      case c1 =>
        intro j u hu
        have hn := newB wr (.cells #[.int .u64 z, .complex .f64 p q, .complex .f64 r s] 123) rfl
        match j with
        | 0 => injection hu with hu; subst hu; exact cell_at (i := 0) hn rfl
        | 1 => injection hu with hu; subst hu; exact cell_at (i := 1) hn rfl
        | 2 => injection hu with hu; subst hu; exact cell_at (i := 2) hn rfl
        | j + 3 => simp at hu
      case c2 => simp [Value.oneCell']
      case c3 => unfold maxLen; omega
      case c4 => omega
      case c5 => have h9 := HBW.out.size; simp; omega
      intro v' w4 hown2 hg2 _
      have HR4 := Lib.hid hown2
      have HB4 : Hid (Below w2.heap.size w2 w4) := Lib.hid ((HBW.out.alloc HBW.out.size _).trans ⟨hg2.os, hg2.tape, hg2.output, hg2.size, fun k hk => hg2.block k (by have h9 := HBW.out.size; simp; omega) (fun e => by have h9 := HR.out.lt k e.symm; omega)⟩)
      clear hown2 hg2 hlk m2 hz
      go_wp2_with fail
      go_roundw
      case rel => exact ⟨i + 1, _, v', rfl, by omega, by go_num, HR4.out, HB4.out⟩
      case measure => simp [intOf]; omega
    · obtain rfl : i = 2 := by omega
      obtain ⟨g', cap', hv⟩ := ownsRow_succ HR.out
      go_wp2_with fail
      go_ret
      exact ⟨some ⟨g', 0, none⟩, cap', by rw [← hv]; rfl, HB2.out.trans (HBW.out.mono HB2.out.size)⟩
end Go.Proofs.YtlobgpgdknjhlaaGreat.WH
