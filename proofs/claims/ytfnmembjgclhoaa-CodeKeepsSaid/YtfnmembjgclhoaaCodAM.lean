/- The document's lists of strings of letters. -/
import Derived.Test.YtfnmembjgclhoaaCodAB
namespace Go.Proofs.Ytfnmembjgclhoaa.CD
open Go Go.RowKit
set_option linter.unusedVariables false
set_option linter.unusedSimpArgs false
open B (pcs ofB)

/-- A string that is being spelt, in the block P. -/
structure Sq (w : World) (P n : Nat) (X Z : Nat) (W : World) : Prop where
  below : Below P w W
  lt : P < W.heap.size
  p : Cells4 W P 0 ⟨n, X, Z, 0⟩
  fp : ∀ i, W.frozen? ⟨P, i, none⟩ = false
theorem Sq.start (w : World) (n : Nat) : Sq w w.heap.size n 0 0 (w.alloc (.cells #[.int .i64 n, .int .u64 0, .int .u64 0, .int .i64 0] 27)) :=
  ⟨below1 _ _, by simp, Cells4.of (p := ⟨n, 0, 0, 0⟩) (newAt _ _ rfl), fun i => free_of (newAt _ _ rfl)⟩
theorem Sq.setX {w W : World} {P n X Z X' : Nat} (h : Sq w P n X Z W) : Sq w P n X' Z (W.setCell ⟨P, 1, none⟩ (.int .u64 X')).drew :=
  ⟨(h.below.setCell (show P ≤ (⟨P, 1, none⟩ : Addr).block by simp) _).drew, by simpa using h.lt, Cells4.drew h.p.setX, fun i => by simpa using h.fp i⟩
theorem Sq.setZ {w W : World} {P n X Z Z' : Nat} (h : Sq w P n X Z W) : Sq w P n X Z' (W.setCell ⟨P, 2, none⟩ (.int .u64 Z')).drew :=
  ⟨(h.below.setCell (show P ≤ (⟨P, 2, none⟩ : Addr).block by simp) _).drew, by simpa using h.lt, Cells4.drew h.p.setZ, fun i => by simpa using h.fp i⟩

set_option maxRecDepth 100000 in
set_option maxHeartbeats 8000000 in
theorem spelled_calls (b : Nat) (ws : List ByteArray) (w : World) (hs : Strs w b ws) (hl : ws.length ≤ 64) (hz : ∀ s ∈ ws, s.size ≤ 64) :
    Calls Try.prog 46 #[.slice (some ⟨b, 0, none⟩) ws.length ws.length] w (Listed w (ws.map spell)) := by
  obtain ⟨i0, hi, hz0, hz1, hz2⟩ := info_parts info27
  have hlI : (ws.length : Int) ≤ 64 := by omega
  have hbd : ∀ (a : Int) (w : World), (Instr.build 27 #[(0, .int .i64 a)]).run Try.prog w = .ok (.agg #[.int .i64 a, .int .u64 0, .int .u64 0, .int .i64 0]) w := fun a w => run_build w 27 _ _ (by kernel_rfl)
  have mixed := mixed
  have HS := Lib.hid hs
  have HZ := Lib.hid hz
  clear hs hz
  go_enter Try.func46, Try.ntmps46
  go_wp2
  go_loopw [3, 4] (fun v s W => ∃ i : Nat, i ≤ ws.length ∧ s = .int .i64 i ∧ W.ownsRow w.heap.size 27 4 v i (flat ((ws.map spell).take i)) ∧ Below w.heap.size w W) (fun _ s _ => ws.length - (intOf s).toNat)
  case atStart => exact ⟨0, Nat.zero_le _, rfl, World.ownsRow_nil _ _ _ _, Below.refl _ _⟩
  case round =>
    obtain ⟨i, hin, rfl, hown, hbel⟩ := hrel
    by_cases hlt : i < ws.length
    · have hcell0 := HS.out.below hbel i hlt
      have hbW : b < w.heap.size := block_lt (HS.out i hlt)
      have hsl := HZ.out _ (List.getElem_mem hlt)
      have HTK : Hid ((ws.map spell).take (i + 1) = (ws.map spell).take i ++ [spell ws[i]]) := Lib.hid (by rw [← List.map_take, ← List.map_take, List.take_succ_eq_append_getElem hlt, List.map_append]; rfl)
      have HOWN := Lib.hid hown
      have HBEL := Lib.hid hbel
      have hbw : b < wr.heap.size := Nat.lt_of_lt_of_le hbW hbel.size
      clear hown hbel
      generalize hse : ws[i] = s at hcell0 hsl HTK
      have hsI : (s.size : Int) ≤ 64 := by omega
      obtain ⟨wo, rfl⟩ : ∃ wo : World, wo = wr := ⟨_, rfl⟩
      have HSQ := Lib.hid (Sq.start wo s.size)
      have HCE := Lib.hid hcell0
      go_wp2_with fail
      go_loopw [6] (fun k W => ∃ j : Nat, j ≤ s.size ∧ k = .int .i64 j ∧ Sq wo wo.heap.size s.size (ofB (xb s) j) (ofB (zb s) j) W) (fun k _ => s.size - (intOf k).toNat)
      case atStart => exact ⟨0, Nat.zero_le _, rfl, HSQ.out⟩
      case round =>
        obtain ⟨j, hj, rfl, hst⟩ := hrel
        have HST := Lib.hid hst
        obtain ⟨hbl, hlt1, ⟨p0, p1, p2, p3⟩, hfp⟩ := hst
        simp only at p0 p1 p2 p3
        have hcell := (hbl.cell (p := ⟨b, i, none⟩) hbw).trans HCE.out
        clear hbl hcell0
        by_cases hlt : j < s.size
        · skip
          have ha := letter_at hlt
          have hox := or_bit (f := xb s) (i := j) (by omega)
          have hnx := no_bit (f := xb s) (i := j)
          have hoz := or_bit (f := zb s) (i := j) (by omega)
          have hnz := no_bit (f := zb s) (i := j)
          have hbx : xb s j = (letter s j == 88 || letter s j == 89) := rfl
          have hbzz : zb s j = (letter s j == 90 || letter s j == 89) := rfl
          rw [ha] at hbx hbzz
          by_cases h88 : (s[j]'hlt).toNat = 88
          · have hval := h88
            clear h88
            have f88 : ((((s[j]'hlt).toNat : Nat) : Int) == 88) = true := by simp [hval]
            have f89 : ((((s[j]'hlt).toNat : Nat) : Int) == 89) = false := by simp [hval]
            have f90 : ((((s[j]'hlt).toNat : Nat) : Int) == 90) = false := by simp [hval]
            have hxv : xb s j = true := by rw [hbx, hval]; rfl
            have hzv : zb s j = false := by rw [hbzz, hval]; rfl
            have hv := hox hxv
            have hze := Lib.hid (hnz hzv)
            clear hox hnx hoz hnz hbx hbzz hxv hzv ha hval
            go_wp2_with fail
            go_still_tail 6, (by kernel_rfl)
            go_wp2_with fail
            have H4 := Lib.hid (HST.out.setX (X' := ofB (xb s) (j + 1)))
            clear HST p0 p1 p2 p3 hfp hlt1 hv
            go_roundw
            case rel => exact ⟨j + 1, by omega, by go_num, by rw [← hze.out]; exact H4.out⟩
            case measure => simp [intOf]; omega
          by_cases h89 : (s[j]'hlt).toNat = 89
          · have hval := h89
            clear h88 h89
            have f88 : ((((s[j]'hlt).toNat : Nat) : Int) == 88) = false := by simp [hval]
            have f89 : ((((s[j]'hlt).toNat : Nat) : Int) == 89) = true := by simp [hval]
            have f90 : ((((s[j]'hlt).toNat : Nat) : Int) == 90) = false := by simp [hval]
            have hxv : xb s j = true := by rw [hbx, hval]; rfl
            have hzv : zb s j = true := by rw [hbzz, hval]; rfl
            have hv := hox hxv
            have HVZ := Lib.hid (hoz hzv)
            clear hox hnx hoz hnz hbx hbzz hxv hzv ha hval
            go_wp2_with fail
            go_still_tail 6, (by kernel_rfl)
            go_wp2_with fail
            have H4 := Lib.hid (HST.out.setX (X' := ofB (xb s) (j + 1)))
            clear HST p0 p1 p2 p3 hfp hlt1 hv
            clear hcell
            generalize (wr.setCell ⟨wo.heap.size, 1, none⟩ (.int .u64 ((ofB (xb s) (j + 1) : Nat) : Int))).drew = w3 at H4 ⊢
            obtain ⟨hbl4, hlt1, ⟨p0, p1, p2, p3⟩, hfp⟩ := H4.out
            have hcell := (hbl4.cell (p := ⟨b, i, none⟩) hbw).trans HCE.out
            clear hbl4
            simp only at p0 p1 p2 p3
            have hv := HVZ.out
            go_still_tail 6, (by kernel_rfl)
            go_wp2_with fail
            have H5 := Lib.hid (H4.out.setZ (Z' := ofB (zb s) (j + 1)))
            clear hv
            go_roundw
            case rel => exact ⟨j + 1, by omega, by go_num, H5.out⟩
            case measure => simp [intOf]; omega
          by_cases h90 : (s[j]'hlt).toNat = 90
          · have hval := h90
            clear h88 h89 h90
            have f88 : ((((s[j]'hlt).toNat : Nat) : Int) == 88) = false := by simp [hval]
            have f89 : ((((s[j]'hlt).toNat : Nat) : Int) == 89) = false := by simp [hval]
            have f90 : ((((s[j]'hlt).toNat : Nat) : Int) == 90) = true := by simp [hval]
            have hxv : xb s j = false := by rw [hbx, hval]; rfl
            have hzv : zb s j = true := by rw [hbzz, hval]; rfl
            have hxe := Lib.hid (hnx hxv)
            have HVZ := Lib.hid (hoz hzv)
            clear hox hnx hoz hnz hbx hbzz hxv hzv ha hval
            go_wp2_with fail
            have hv := HVZ.out
            go_still_tail 6, (by kernel_rfl)
            go_wp2_with fail
            have H5 := Lib.hid (HST.out.setZ (Z' := ofB (zb s) (j + 1)))
            clear hv
            go_roundw
            case rel => exact ⟨j + 1, by omega, by go_num, by rw [← hxe.out]; exact H5.out⟩
            case measure => simp [intOf]; omega
          have f88 : ((((s[j]'hlt).toNat : Nat) : Int) == 88) = false := by simp; omega
          have f89 : ((((s[j]'hlt).toNat : Nat) : Int) == 89) = false := by simp; omega
          have f90 : ((((s[j]'hlt).toNat : Nat) : Int) == 90) = false := by simp; omega
          have hxv : xb s j = false := by rw [hbx]; simp; omega
          have hzv : zb s j = false := by rw [hbzz]; simp; omega
          have hxe := Lib.hid (hnx hxv)
          have hze := Lib.hid (hnz hzv)
          clear hox hnx hoz hnz hbx hbzz hxv hzv ha h88 h89 h90
          go_wp2_with fail
          go_roundw
          case rel => exact ⟨j + 1, by omega, by go_num, by rw [← hxe.out, ← hze.out]; exact HST.out⟩
          case measure => simp [intOf]; omega
        · obtain rfl : j = s.size := by omega
          have HO2 := Lib.hid (own_below HOWN.out HST.out.below)
          have HB2 := Lib.hid (HBEL.out.trans (HST.out.below.mono HBEL.out.size))
          have HSP : Hid (spell s = ⟨s.size, ofB (xb s) s.size, ofB (zb s) s.size, 0⟩) := Lib.hid rfl
          clear HOWN HBEL HSQ HCE
          generalize ofB (xb s) s.size = X at HST p1 HSP
          generalize ofB (zb s) s.size = Z at HST p2 HSP
          go_wp2_with (at_builtin; refine wpList_append_own _ rfl _ _ 22 rfl w.heap.size 27 i0 _ 4 32 Try.underlying22 hi hz0 hz1 hz2 rfl (by decide) _ _ _ rfl (HO2.out.alloc _) ⟨wr.heap.size, 0, none⟩ 1 1 [.int .i64 s.size, .int .u64 X, .int .u64 Z, .int .i64 0] rfl rfl ?c1 ?c2 ?c3 ?c4 ?c5 ?_)
          case c1 => exact Row.news (ps := [⟨s.size, X, Z, 0⟩]) (off := 0) (fun j hj => by
            obtain rfl : j = 0 := by simpa using hj
            exact Cells4.of (newAt _ _ rfl))
          case c2 => exact flat_one [⟨s.size, X, Z, 0⟩]
          case c3 => unfold maxLen; omega
          case c4 => omega
          case c5 => have h9 := HB2.out.size; simp; omega
          intro v' w1 hown2 hg2 _
          have HO3 : Hid (w1.ownsRow w.heap.size 27 4 v' (i + 1) (flat ((ws.map spell).take (i + 1)))) := Lib.hid (by rw [HTK.out, HSP.out, flat_snoc]; exact hown2)
          have HB3 : Hid (Below w.heap.size w w1) := Lib.hid ((HB2.out.alloc HB2.out.size _).trans ⟨hg2.os, hg2.tape, hg2.output, hg2.size, fun k hk => hg2.block k (by have h9 := HB2.out.size; simp; omega) (fun e => by have h9 := HO2.out.lt k e.symm; omega)⟩)
          clear hown2 hg2
          go_wp2
          go_roundw
          case rel => exact ⟨i + 1, by omega, by go_num, HO3.out, HB3.out⟩
          case measure => simp [intOf]; omega
    · obtain rfl : i = ws.length := by omega
      have HOWN := Lib.hid hown
      have HBEL := Lib.hid hbel
      clear hown hbel
      go_wp2
      go_ret
      refine ⟨_, rfl, ?_, HBEL.out⟩
      have h9 := HOWN.out
      rw [List.take_of_length_le (by simp)] at h9
      rw [List.length_map]
      exact h9
end Go.Proofs.Ytfnmembjgclhoaa.CD
