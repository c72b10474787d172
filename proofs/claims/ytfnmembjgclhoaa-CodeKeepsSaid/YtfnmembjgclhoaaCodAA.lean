/- Strings of letters. -/
import Derived.Test.YtfnmembjgclhoaaCodZ
namespace Go.Proofs.Ytfnmembjgclhoaa.CD
open Go Go.RowKit
set_option linter.unusedVariables false
set_option linter.unusedSimpArgs false
open B (pcs ofB)

def letter (s : ByteArray) (j : Nat) : Nat := if h : j < s.size then (s[j]'h).toNat else 0
def xb (s : ByteArray) (j : Nat) : Bool := letter s j == 88 || letter s j == 89
def zb (s : ByteArray) (j : Nat) : Bool := letter s j == 90 || letter s j == 89
def spell (s : ByteArray) : Pau := ⟨s.size, ofB (xb s) s.size, ofB (zb s) s.size, 0⟩
theorem letter_at {s : ByteArray} {j : Nat} (h : j < s.size) : letter s j = (s[j]'h).toNat := by simp [letter, h]

/-- A string that is being spelt. -/
structure Sp (w : World) (n : Nat) (X Z : Nat) (W : World) : Prop where
  below : Below w.heap.size w W
  lt : w.heap.size + 1 < W.heap.size
  o : Cells4 W w.heap.size 0 ⟨0, 0, 0, 0⟩
  fo : ∀ i, W.frozen? ⟨w.heap.size, i, none⟩ = false
  p : Cells4 W (w.heap.size + 1) 0 ⟨n, X, Z, 0⟩
  fp : ∀ i, W.frozen? ⟨w.heap.size + 1, i, none⟩ = false
theorem Sp.start (w : World) (n : Nat) : Sp w n 0 0 ((w.alloc (.cells #[.int .i64 0, .int .u64 0, .int .u64 0, .int .i64 0] 27)).alloc (.cells #[.int .i64 n, .int .u64 0, .int .u64 0, .int .i64 0] 27)) := by
  have h1 : Cells4 (w.alloc (.cells #[.int .i64 0, .int .u64 0, .int .u64 0, .int .i64 0] 27)) w.heap.size 0 ⟨0, 0, 0, 0⟩ := Cells4.of (p := ⟨0, 0, 0, 0⟩) (newAt _ _ rfl)
  exact ⟨below2 _ _ _, by simp, h1.below (by simp) (below1 _ _), fun i => by
    rw [(below1 _ _).frozen (p := ⟨w.heap.size, i, none⟩) (by simp)]
    exact free_of (newAt _ _ rfl), Cells4.of (p := ⟨n, 0, 0, 0⟩) (newAt _ _ (by simp)), fun i => free_of (newAt _ _ (by simp))⟩
theorem Sp.setX {w W : World} {n X Z X' : Nat} (h : Sp w n X Z W) : Sp w n X' Z (W.setCell ⟨w.heap.size + 1, 1, none⟩ (.int .u64 X')).drew :=
  ⟨(h.below.setCell (show w.heap.size ≤ (⟨w.heap.size + 1, 1, none⟩ : Addr).block by simp) _).drew, by simpa using h.lt, Cells4.drew (h.o.other _ (by simp)), fun i => by simpa using h.fo i, Cells4.drew h.p.setX, fun i => by simpa using h.fp i⟩
theorem Sp.setZ {w W : World} {n X Z Z' : Nat} (h : Sp w n X Z W) : Sp w n X Z' (W.setCell ⟨w.heap.size + 1, 2, none⟩ (.int .u64 Z')).drew :=
  ⟨(h.below.setCell (show w.heap.size ≤ (⟨w.heap.size + 1, 2, none⟩ : Addr).block by simp) _).drew, by simpa using h.lt, Cells4.drew (h.o.other _ (by simp)), fun i => by simpa using h.fo i, Cells4.drew h.p.setZ, fun i => by simpa using h.fp i⟩

set_option maxRecDepth 100000 in
set_option maxHeartbeats 4000000 in
theorem written_calls (s : ByteArray) (hs : s.size ≤ 64) (w : World) : Calls Try.prog 53 #[.string s] w fun e w' => e = .returned (Value.agg #[.int .i64 (spell s).n, .int .u64 (spell s).x, .int .u64 (spell s).z, .int .i64 (spell s).ph]) ∧ Below w.heap.size w w' := by
  have HS := Lib.hid (Sp.start w s.size)
  have hsI : (s.size : Int) ≤ 64 := by omega
  have hbd : ∀ (a : Int) (w : World), (Instr.build 27 #[(0, .int .i64 a)]).run Try.prog w = .ok (.agg #[.int .i64 a, .int .u64 0, .int .u64 0, .int .i64 0]) w := fun a w => run_build w 27 _ _ (by kernel_rfl)
  have mixed := mixed
  go_enter Try.func53, Try.ntmps53
  go_wp2
  go_loopw [10] (fun i W => ∃ j : Nat, j ≤ s.size ∧ i = .int .i64 j ∧ Sp w s.size (ofB (xb s) j) (ofB (zb s) j) W) (fun i _ => s.size - (intOf i).toNat)
  case atStart => exact ⟨0, Nat.zero_le _, rfl, HS.out⟩
  case round =>
    clear HS
    obtain ⟨j, hj, rfl, hst⟩ := hrel
    have HST := Lib.hid hst
    obtain ⟨-, hlt1, ⟨o0, o1, o2, o3⟩, hfo, ⟨p0, p1, p2, p3⟩, hfp⟩ := hst
    simp only at o0 o1 o2 o3 p0 p1 p2 p3
    by_cases hlt : j < s.size
    · have ha := letter_at hlt
      have hox := or_bit (f := xb s) (i := j) (by omega)
      have hnx := no_bit (f := xb s) (i := j)
      have hoz := or_bit (f := zb s) (i := j) (by omega)
      have hnz := no_bit (f := zb s) (i := j)
      have hbx : xb s j = (letter s j == 88 || letter s j == 89) := rfl
      have hbzz : zb s j = (letter s j == 90 || letter s j == 89) := rfl
      rw [ha] at hbx hbzz
      by_cases h88 : (s[j]'hlt).toNat = 88
      · have hval := h88
        clear h88
        have f88 : ((((s[j]'hlt).toNat : Nat) : Int) == 88) = true := by simp [hval]
        have f89 : ((((s[j]'hlt).toNat : Nat) : Int) == 89) = false := by simp [hval]
        have f90 : ((((s[j]'hlt).toNat : Nat) : Int) == 90) = false := by simp [hval]
        have hxv : xb s j = true := by rw [hbx, hval]; rfl
        have hzv : zb s j = false := by rw [hbzz, hval]; rfl
        have hv := hox hxv
        have hze := Lib.hid (hnz hzv)
        clear hox hnx hoz hnz hbx hbzz hxv hzv ha hval
        go_wp2_with fail
        go_still_tail 6, (by kernel_rfl)
        go_wp2_with fail
        have H4 := Lib.hid (HST.out.setX (X' := ofB (xb s) (j + 1)))
        clear HST o0 o1 o2 o3 p0 p1 p2 p3 hfo hfp hlt1 hv
        go_roundw
        case rel => exact ⟨j + 1, by omega, by go_num, by rw [← hze.out]; exact H4.out⟩
        case measure => simp [intOf]; omega
      by_cases h89 : (s[j]'hlt).toNat = 89
      · have hval := h89
        clear h88 h89
        have f88 : ((((s[j]'hlt).toNat : Nat) : Int) == 88) = false := by simp [hval]
        have f89 : ((((s[j]'hlt).toNat : Nat) : Int) == 89) = true := by simp [hval]
        have f90 : ((((s[j]'hlt).toNat : Nat) : Int) == 90) = false := by simp [hval]
        have hxv : xb s j = true := by rw [hbx, hval]; rfl
        have hzv : zb s j = true := by rw [hbzz, hval]; rfl
        have hv := hox hxv
        have HVZ := Lib.hid (hoz hzv)
        clear hox hnx hoz hnz hbx hbzz hxv hzv ha hval
        go_wp2_with fail
        go_still_tail 6, (by kernel_rfl)
        go_wp2_with fail
        have H4 := Lib.hid (HST.out.setX (X' := ofB (xb s) (j + 1)))
        clear HST o0 o1 o2 o3 p0 p1 p2 p3 hfo hfp hlt1 hv
        generalize (wr.setCell ⟨w.heap.size + 1, 1, none⟩ (.int .u64 ((ofB (xb s) (j + 1) : Nat) : Int))).drew = w3 at H4 ⊢
        obtain ⟨-, hlt1, ⟨o0, o1, o2, o3⟩, hfo, ⟨p0, p1, p2, p3⟩, hfp⟩ := H4.out
        simp only at o0 o1 o2 o3 p0 p1 p2 p3
        have hv := HVZ.out
        go_still_tail 6, (by kernel_rfl)
        go_wp2_with fail
        have H5 := Lib.hid (H4.out.setZ (Z' := ofB (zb s) (j + 1)))
        clear hv
        go_roundw
        case rel => exact ⟨j + 1, by omega, by go_num, H5.out⟩
        case measure => simp [intOf]; omega
      by_cases h90 : (s[j]'hlt).toNat = 90
      · have hval := h90
        clear h88 h89 h90
        have f88 : ((((s[j]'hlt).toNat : Nat) : Int) == 88) = false := by simp [hval]
        have f89 : ((((s[j]'hlt).toNat : Nat) : Int) == 89) = false := by simp [hval]
        have f90 : ((((s[j]'hlt).toNat : Nat) : Int) == 90) = true := by simp [hval]
        have hxv : xb s j = false := by rw [hbx, hval]; rfl
        have hzv : zb s j = true := by rw [hbzz, hval]; rfl
        have hxe := Lib.hid (hnx hxv)
        have HVZ := Lib.hid (hoz hzv)
        clear hox hnx hoz hnz hbx hbzz hxv hzv ha hval
        go_wp2_with fail
        have hv := HVZ.out
        go_still_tail 6, (by kernel_rfl)
        go_wp2_with fail
        have H5 := Lib.hid (HST.out.setZ (Z' := ofB (zb s) (j + 1)))
        clear hv
        go_roundw
        case rel => exact ⟨j + 1, by omega, by go_num, by rw [← hxe.out]; exact H5.out⟩
        case measure => simp [intOf]; omega
      have f88 : ((((s[j]'hlt).toNat : Nat) : Int) == 88) = false := by simp; omega
      have f89 : ((((s[j]'hlt).toNat : Nat) : Int) == 89) = false := by simp; omega
      have f90 : ((((s[j]'hlt).toNat : Nat) : Int) == 90) = false := by simp; omega
      have hxv : xb s j = false := by rw [hbx]; simp; omega
      have hzv : zb s j = false := by rw [hbzz]; simp; omega
      have hxe := Lib.hid (hnx hxv)
      have hze := Lib.hid (hnz hzv)
      clear hox hnx hoz hnz hbx hbzz hxv hzv ha h88 h89 h90
      go_wp2_with fail
      go_roundw
      case rel => exact ⟨j + 1, by omega, by go_num, by rw [← hxe.out, ← hze.out]; exact HST.out⟩
      case measure => simp [intOf]; omega
    · obtain rfl : j = s.size := by omega
      go_wp2
      refine bodyPost_ret (v := (Value.agg #[.int .i64 (spell s).n, .int .u64 (spell s).x, .int .u64 (spell s).z, .int .i64 (spell s).ph])) (by simp [results, Try.results53, go_sem, spell, *]) rfl ⟨rfl, put4 HST.out.below (Nat.le_refl _) _ _ _ _⟩
end Go.Proofs.Ytfnmembjgclhoaa.CD
