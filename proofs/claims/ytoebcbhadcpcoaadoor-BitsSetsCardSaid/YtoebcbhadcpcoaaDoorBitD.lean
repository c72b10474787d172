/- OnesCount64, and the document's bit and set, over natural numbers. -/
import Derived.Test.YtoebcbhadcpcoaaDoorBitC
import Derived.Test.YtoebcbhadcpcoaaDoorPAx1
namespace Go.Proofs.YtoebcbhadcpcoaaDoor.B
open Go Go.RowKit Go.Proofs.YtoebcbhadcpcoaaDoor.PA Go.Proofs.YtoebcbhadcpcoaaDoorW.PrintMore Go.Proofs.YtoebcbhadcpcoaaDoorW.PrintWords
set_option linter.unusedVariables false
set_option linter.unusedSimpArgs false
def oA (x : Int) : Int := IntKind.u64.wrap ((Go.bits .and .u64 (x / 2) 6148914691236517205) + (Go.bits .and .u64 x 6148914691236517205))
def oB (x : Int) : Int := IntKind.u64.wrap ((Go.bits .and .u64 (x / 4) 3689348814741910323) + (Go.bits .and .u64 x 3689348814741910323))
def oC (x : Int) : Int := Go.bits .and .u64 (IntKind.u64.wrap ((x / 16) + x)) 1085102592571150095
def oD (x : Int) : Int := IntKind.u64.wrap (x + (x / 256))
def oE (x : Int) : Int := IntKind.u64.wrap (x + (x / 65536))
def oF (x : Int) : Int := IntKind.u64.wrap (x + (x / 4294967296))
theorem count_eq (x : Int) : bits_OnesCount64.f x = some (Go.bits .and .i64 (wrap64 (oF (oE (oD (oC (oB (oA x))))))) 127) := rfl
theorem and127_i (a : Int) : Go.bits .and .i64 a 127 = a % 128 := by
  have hx : (BitVec.ofInt 64 a).toNat = (a % 18446744073709551616).toNat := by simp [BitVec.toNat_ofInt]
  have h3 : (BitVec.ofInt 64 127).toNat = 127 := rfl
  have e : Go.bits .and .i64 a 127 = IntKind.i64.wrap ((((BitVec.ofInt 64 a) &&& (BitVec.ofInt 64 127)).toNat : Nat) : Int) := rfl
  rw [e, BitVec.toNat_and, hx, h3, show (127 : Nat) = 2 ^ 7 - 1 from rfl, Nat.and_two_pow_sub_one_eq_mod, IntKind.wrap_i64]
  omega
theorem oA_n {x : Nat} (hx : x < 2 ^ 64) : oA (x : Int) = (s1 8 x : Nat) := by
  unfold oA
  have h1 : (Go.bits .and .u64 ((x : Int) / 2) 6148914691236517205) = ((x / 2 &&& m5 8 : Nat) : Int) := @and_u (x / 2) (m5 8) (by omega) (by decide)
  have h2 : (Go.bits .and .u64 (x : Int) 6148914691236517205) = ((x &&& m5 8 : Nat) : Int) := @and_u x (m5 8) hx (by decide)
  have h3 := s1_lt 8 x (by decide)
  rw [h1, h2, ← Int.natCast_add]
  exact wraps_u64 _ (Int.natCast_nonneg _) (by unfold s1 at h3; exact_mod_cast h3)
theorem oB_n {x : Nat} (hx : x < 2 ^ 64) : oB (x : Int) = (s2 8 x : Nat) := by
  unfold oB
  have h1 : (Go.bits .and .u64 ((x : Int) / 4) 3689348814741910323) = ((x / 4 &&& m3 8 : Nat) : Int) := @and_u (x / 4) (m3 8) (by omega) (by decide)
  have h2 : (Go.bits .and .u64 (x : Int) 3689348814741910323) = ((x &&& m3 8 : Nat) : Int) := @and_u x (m3 8) hx (by decide)
  have h3 := s2_lt 8 x (by decide)
  rw [h1, h2, ← Int.natCast_add]
  exact wraps_u64 _ (Int.natCast_nonneg _) (by unfold s2 at h3; exact_mod_cast h3)
theorem s2_le (x : Nat) : s2 8 x ≤ 7378697629483820646 := by
  have h : ∀ y, (y &&& m3 8) ≤ m3 8 := fun y => Nat.and_le_right
  have hm : m3 8 = 3689348814741910323 := by decide
  have := h x
  have := h (x / 4)
  unfold s2
  omega
theorem oC_n {x : Nat} (hx : x ≤ 7378697629483820646) : oC (x : Int) = (s3 8 x : Nat) := by
  unfold oC
  have e : IntKind.u64.wrap (((x : Int) / 16) + (x : Int)) = ((x / 16 + x : Nat) : Int) := wraps_u64 _ (by omega) (by omega)
  rw [e]
  exact @and_u (x / 16 + x) (mf 8) (by omega) (by decide)
theorem count_n {x : Nat} (hx : x < 2 ^ 64) : bits_OnesCount64.f (x : Int) = some ((pc 64 x : Nat) : Int) := by
  obtain ⟨X, Y1, Y2, Y3, eX, e1, e2, e3, b1, b2, b3, hp⟩ := ones x hx
  have hA := oA_n hx
  have hA' := s1_lt 8 x (by decide)
  have hB := oB_n hA'
  have hC := oC_n (s2_le (s1 8 x))
  have hD : oD (X : Int) = (Y1 : Int) := by
    unfold oD
    rw [show (X : Int) + (X : Int) / 256 = (Y1 : Int) by omega]
    exact wraps_u64 _ (by omega) (by omega)
  have hE : oE (Y1 : Int) = (Y2 : Int) := by
    unfold oE
    rw [show (Y1 : Int) + (Y1 : Int) / 65536 = (Y2 : Int) by omega]
    exact wraps_u64 _ (by omega) (by omega)
  have hF : oF (Y2 : Int) = (Y3 : Int) := by
    unfold oF
    rw [show (Y2 : Int) + (Y2 : Int) / 4294967296 = (Y3 : Int) by omega]
    exact wraps_u64 _ (by omega) (by omega)
  have eX' : ((s3 8 (s2 8 (s1 8 x)) : Nat) : Int) = (X : Int) := by rw [eX]; rfl
  rw [count_eq, hA, hB, hC, eX', hD, hE, hF, and127_i]
  congr 1
  have hle := pc_le 64 x
  clear hA hB hC eX' hD hE hF eX e1 e2 e3
  unfold wrap64
  omega
end Go.Proofs.YtoebcbhadcpcoaaDoor.B
