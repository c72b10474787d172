/- Plain laws on Go's unsigned 64-bit words as natural numbers: and, or, xor, the number of ones, their bits; Pauli strings' products. (Turned by program from BitA, BitC, BitD, BitE0, PauA: without a printer's words.) -/
import Derived.Laws.BitsLemmas
import Derived.RowKit
import Derived.OpenShut
import Derived.WalkKit
namespace Go.Proofs.YtlobgpgdknjhlaaGreat.B
open Go Go.RowKit
set_option linter.unusedVariables false
set_option linter.unusedSimpArgs false

theorem wrap_u64 (n : Int) : IntKind.u64.wrap n = n % 18446744073709551616 := by simp [IntKind.wrap, IntKind.bits, IntKind.signed]
theorem wraps_u64 (n : Int) (h₀ : 0 ≤ n) (h₁ : n < 2 ^ 64) : IntKind.u64.wrap n = n := by rw [wrap_u64]; omega
theorem and_u {a b : Nat} (ha : a < 2 ^ 64) (hb : b < 2 ^ 64) : Go.bits .and .u64 (a : Int) (b : Int) = ((a &&& b : Nat) : Int) := (bits_nat .u64 64 (by decide) wraps_u64 a b ha hb).1
theorem or_u {a b : Nat} (ha : a < 2 ^ 64) (hb : b < 2 ^ 64) : Go.bits .or .u64 (a : Int) (b : Int) = ((a ||| b : Nat) : Int) := (bits_nat .u64 64 (by decide) wraps_u64 a b ha hb).2
theorem xor_u {a b : Nat} (ha : a < 2 ^ 64) (hb : b < 2 ^ 64) : Go.bits .xor .u64 (a : Int) (b : Int) = ((a ^^^ b : Nat) : Int) := by
  have ha' : a % 2 ^ IntKind.u64.bits = a := Nat.mod_eq_of_lt ha
  have hb' : b % 2 ^ IntKind.u64.bits = b := Nat.mod_eq_of_lt hb
  simp only [bits, BitVec.ofInt_natCast, BitVec.toNat_xor, BitVec.toNat_ofNat, ha', hb']
  refine wraps_u64 _ (Int.natCast_nonneg _) ?_
  have : a ^^^ b < 2 ^ 64 := Nat.xor_lt_two_pow ha hb
  exact_mod_cast this
theorem and3_i (a : Int) : Go.bits .and .i64 a 3 = a % 4 := by
  have hx : (BitVec.ofInt 64 a).toNat = (a % 18446744073709551616).toNat := by simp [BitVec.toNat_ofInt]
  have h3 : (BitVec.ofInt 64 3).toNat = 3 := rfl
  have e : Go.bits .and .i64 a 3 = IntKind.i64.wrap ((((BitVec.ofInt 64 a) &&& (BitVec.ofInt 64 3)).toNat : Nat) : Int) := rfl
  rw [e, BitVec.toNat_and, hx, h3, show (3 : Nat) = 2 ^ 2 - 1 from rfl, Nat.and_two_pow_sub_one_eq_mod, IntKind.wrap_i64]
  omega
theorem and1_i (a : Int) : Go.bits .and .i64 a 1 = a % 2 := by
  have hx : (BitVec.ofInt 64 a).toNat = (a % 18446744073709551616).toNat := by simp [BitVec.toNat_ofInt]
  have h3 : (BitVec.ofInt 64 1).toNat = 1 := rfl
  have e : Go.bits .and .i64 a 1 = IntKind.i64.wrap ((((BitVec.ofInt 64 a) &&& (BitVec.ofInt 64 1)).toNat : Nat) : Int) := rfl
  rw [e, BitVec.toNat_and, hx, h3, show (1 : Nat) = 2 ^ 1 - 1 from rfl, Nat.and_two_pow_sub_one_eq_mod, IntKind.wrap_i64]
  omega

/-- The ones among the lowest n bits. -/
def pc : Nat → Nat → Nat
  | 0, _ => 0
  | n + 1, x => x % 2 + pc n (x / 2)
theorem pc_le : ∀ n x, pc n x ≤ n
  | 0, _ => Nat.le_refl _
  | n + 1, x => by
    have := pc_le n (x / 2)
    unfold pc
    omega
theorem pc_byte (n Q b : Nat) (hb : b < 256) : pc (n + 8) (256 * Q + b) = pc 8 b + pc n Q := by
  have e : ∀ x, pc (n + 8) x = x % 2 + (x / 2 % 2 + (x / 2 / 2 % 2 + (x / 2 / 2 / 2 % 2 + (x / 2 / 2 / 2 / 2 % 2 + (x / 2 / 2 / 2 / 2 / 2 % 2 + (x / 2 / 2 / 2 / 2 / 2 / 2 % 2 + (x / 2 / 2 / 2 / 2 / 2 / 2 / 2 % 2 + pc n (x / 2 / 2 / 2 / 2 / 2 / 2 / 2 / 2)))))))) := fun x => rfl
  have e8 : pc 8 b = b % 2 + (b / 2 % 2 + (b / 2 / 2 % 2 + (b / 2 / 2 / 2 % 2 + (b / 2 / 2 / 2 / 2 % 2 + (b / 2 / 2 / 2 / 2 / 2 % 2 + (b / 2 / 2 / 2 / 2 / 2 / 2 % 2 + (b / 2 / 2 / 2 / 2 / 2 / 2 / 2 % 2 + 0))))))) := rfl
  rw [e, e8]
  have hq : (256 * Q + b) / 2 / 2 / 2 / 2 / 2 / 2 / 2 / 2 = Q := by omega
  rw [hq]
  omega
theorem pc_zero : ∀ n, pc n 0 = 0
  | 0 => rfl
  | n + 1 => by unfold pc; rw [show 0 / 2 = 0 from rfl, pc_zero n]
theorem and_cat (Q M b c : Nat) (hb : b < 256) (hc : c < 256) : (256 * Q + b) &&& (256 * M + c) = 256 * (Q &&& M) + (b &&& c) := by
  have h1 : ((256 * Q + b) &&& (256 * M + c)) / 256 = Q &&& M := by
    rw [show (256 : Nat) = 2 ^ 8 from rfl, Nat.and_div_two_pow]
    congr 1
    · omega
    · omega
  have h2 : ((256 * Q + b) &&& (256 * M + c)) % 256 = b &&& c := by
    rw [show (256 : Nat) = 2 ^ 8 from rfl, Nat.and_mod_two_pow]
    congr 1
    · omega
    · omega
  omega
def m5 : Nat → Nat
  | 0 => 0
  | k + 1 => 256 * m5 k + 85
def m3 : Nat → Nat
  | 0 => 0
  | k + 1 => 256 * m3 k + 51
def mf : Nat → Nat
  | 0 => 0
  | k + 1 => 256 * mf k + 15
def s1 (k x : Nat) : Nat := (x / 2 &&& m5 k) + (x &&& m5 k)
def s2 (k x : Nat) : Nat := (x / 4 &&& m3 k) + (x &&& m3 k)
def s3 (k x : Nat) : Nat := (x / 16 + x) &&& mf k
theorem d1 : ∀ (b : Fin 256) (c : Fin 2), (128 * c.val + b.val / 2) &&& 85 = (b.val / 2) &&& 85 ∧ ((b.val / 2) &&& 85) + (b.val &&& 85) < 256 := by decide +kernel
theorem d2 : ∀ (b : Fin 256) (c : Fin 4), (64 * c.val + b.val / 4) &&& 51 = (b.val / 4) &&& 51 := by decide +kernel
theorem d3 : ∀ (b : Fin 256), s2 1 (s1 1 b.val) < 69 ∧ s2 1 (s1 1 b.val) % 16 ≤ 4 ∧ (s2 1 (s1 1 b.val) / 16 + s2 1 (s1 1 b.val)) &&& 15 = pc 8 b.val := by decide +kernel
theorem d4 : ∀ (u : Fin 70) (c : Fin 5), (16 * c.val + u.val / 16 + u.val) &&& 15 = (u.val / 16 + u.val) &&& 15 := by decide +kernel
theorem s1_step (k Q b : Nat) (hb : b < 256) : s1 (k + 1) (256 * Q + b) = 256 * s1 k Q + s1 1 b ∧ s1 1 b < 256 := by
  have h : (128 * (Q % 2) + b / 2) &&& 85 = (b / 2) &&& 85 ∧ ((b / 2) &&& 85) + (b &&& 85) < 256 := d1 ⟨b, hb⟩ ⟨Q % 2, Nat.mod_lt _ (by decide)⟩
  have e1 : (256 * Q + b) / 2 = 256 * (Q / 2) + (128 * (Q % 2) + b / 2) := by omega
  have e5 : s1 1 b = (b / 2 &&& 85) + (b &&& 85) := rfl
  refine ⟨?_, h.2⟩
  rw [e5]
  unfold s1
  rw [show m5 (k + 1) = 256 * m5 k + 85 from rfl, e1, and_cat _ _ _ _ (by omega) (by decide), and_cat _ _ _ _ hb (by decide), h.1]
  omega
theorem s2_step (k Q b : Nat) (hb : b < 256) : s2 (k + 1) (256 * Q + b) = 256 * s2 k Q + s2 1 b := by
  have h : (64 * (Q % 4) + b / 4) &&& 51 = (b / 4) &&& 51 := d2 ⟨b, hb⟩ ⟨Q % 4, Nat.mod_lt _ (by decide)⟩
  have e1 : (256 * Q + b) / 4 = 256 * (Q / 4) + (64 * (Q % 4) + b / 4) := by omega
  have e5 : s2 1 b = (b / 4 &&& 51) + (b &&& 51) := rfl
  rw [e5]
  unfold s2
  rw [show m3 (k + 1) = 256 * m3 k + 51 from rfl, e1, and_cat _ _ _ _ (by omega) (by decide), and_cat _ _ _ _ hb (by decide), h]
  omega
def s12 (k x : Nat) : Nat := s2 k (s1 k x)
theorem s12_step (k Q b : Nat) (hb : b < 256) : s12 (k + 1) (256 * Q + b) = 256 * s12 k Q + s12 1 b := by
  have h := s1_step k Q b hb
  unfold s12
  rw [h.1, s2_step k _ _ h.2]
theorem s12_low (k x : Nat) : s12 k x % 16 ≤ 4 := by
  cases k with
  | zero => simp [s12, s2, s1, m3, m5]
  | succ k =>
    have h := d3 ⟨x % 256, Nat.mod_lt _ (by decide)⟩
    have e : x = 256 * (x / 256) + x % 256 := by omega
    rw [e, s12_step k _ _ (Nat.mod_lt _ (by decide))]
    have : s12 1 (x % 256) % 16 ≤ 4 := h.2.1
    omega
def s123 (k x : Nat) : Nat := s3 k (s12 k x)
theorem s123_step (k Q b : Nat) (hb : b < 256) : s123 (k + 1) (256 * Q + b) = 256 * s123 k Q + pc 8 b := by
  have h := d3 ⟨b, hb⟩
  have hq := s12_low k Q
  unfold s123
  rw [s12_step k Q b hb]
  unfold s3
  have hu : s12 1 b < 69 := h.1
  have e1 : (256 * s12 k Q + s12 1 b) / 16 + (256 * s12 k Q + s12 1 b) = 256 * (s12 k Q / 16 + s12 k Q) + (16 * (s12 k Q % 16) + s12 1 b / 16 + s12 1 b) := by omega
  have h4 := d4 ⟨s12 1 b, by omega⟩ ⟨s12 k Q % 16, by omega⟩
  rw [show mf (k + 1) = 256 * mf k + 15 from rfl, e1, and_cat _ _ _ _ (by omega) (by decide), show (16 * (s12 k Q % 16) + s12 1 b / 16 + s12 1 b) &&& 15 = (s12 1 b / 16 + s12 1 b) &&& 15 from h4]
  have h5 : (s12 1 b / 16 + s12 1 b) &&& 15 = pc 8 b := h.2.2
  rw [h5]
theorem s1_lt (k x : Nat) (hk : k ≤ 8) : s1 k x < 2 ^ 64 := by
  have h : ∀ y, (y &&& m5 k) ≤ m5 k := fun y => Nat.and_le_right
  have hm : m5 k ≤ 6148914691236517205 := by
    rcases k with _ | _ | _ | _ | _ | _ | _ | _ | _ | k
    all_goals first | decide | omega
  have := h x
  have := h (x / 2)
  unfold s1
  omega
theorem s2_lt (k x : Nat) (hk : k ≤ 8) : s2 k x < 2 ^ 64 := by
  have h : ∀ y, (y &&& m3 k) ≤ m3 k := fun y => Nat.and_le_right
  have hm : m3 k ≤ 3689348814741910323 := by
    rcases k with _ | _ | _ | _ | _ | _ | _ | _ | _ | k
    all_goals first | decide | omega
  have := h x
  have := h (x / 4)
  unfold s2
  omega
/-- A word by its bytes. -/
theorem bytes (x : Nat) (hx : x < 2 ^ 64) : ∃ b0 b1 b2 b3 b4 b5 b6 b7, b0 < 256 ∧ b1 < 256 ∧ b2 < 256 ∧ b3 < 256 ∧ b4 < 256 ∧ b5 < 256 ∧ b6 < 256 ∧ b7 < 256 ∧
    x = 256 * (256 * (256 * (256 * (256 * (256 * (256 * (256 * 0 + b7) + b6) + b5) + b4) + b3) + b2) + b1) + b0 :=
  ⟨x % 256, x / 256 % 256, x / 65536 % 256, x / 16777216 % 256, x / 4294967296 % 256, x / 1099511627776 % 256, x / 281474976710656 % 256, x / 72057594037927936 % 256, by omega, by omega, by omega, by omega, by omega, by omega, by omega, by omega, by omega⟩
theorem dv1 (T d0 Y : Nat) (h : Y = 256 * T + d0) (h0 : d0 < 256) : Y / 256 = T := by omega
theorem dv2 (T d1 d0 Y : Nat) (h : Y = 256 * (256 * T + d1) + d0) (h1 : d1 < 256) (h0 : d0 < 256) : Y / 65536 = T := by omega
theorem dv4 (T d3 d2 d1 d0 Y : Nat) (h : Y = 256 * (256 * (256 * (256 * T + d3) + d2) + d1) + d0) (h3 : d3 < 256) (h2 : d2 < 256) (h1 : d1 < 256) (h0 : d0 < 256) : Y / 4294967296 = T := by omega
theorem eight (e7 e6 e5 e4 e3 e2 e1 e0 Y : Nat) (h : Y = 256 * (256 * (256 * (256 * (256 * (256 * (256 * e7 + e6) + e5) + e4) + e3) + e2) + e1) + e0) (h7 : e7 < 256) (h6 : e6 < 256) (h5 : e5 < 256) (h4 : e4 < 256) (h3 : e3 < 256) (h2 : e2 < 256) (h1 : e1 < 256) (h0 : e0 < 256) : Y < 2 ^ 64 := by omega
theorem low7 (T e0 s Y : Nat) (h : Y = 256 * T + e0) (h0 : e0 = s) (hs : s < 128) : Y % 128 = s := by omega
theorem lin1 (c0 c1 c2 c3 c4 c5 c6 c7 : Nat) : 256 * (256 * (256 * (256 * (256 * (256 * (256 * c7 + c6) + c5) + c4) + c3) + c2) + c1) + c0 + (256 * (256 * (256 * (256 * (256 * (256 * c7 + c6) + c5) + c4) + c3) + c2) + c1) =
    256 * (256 * (256 * (256 * (256 * (256 * (256 * c7 + (c6 + c7)) + (c5 + c6)) + (c4 + c5)) + (c3 + c4)) + (c2 + c3)) + (c1 + c2)) + (c0 + c1) := by omega
theorem lin2 (c0 c1 c2 c3 c4 c5 c6 c7 : Nat) : 256 * (256 * (256 * (256 * (256 * (256 * (256 * c7 + c6) + c5) + c4) + c3) + c2) + c1) + c0 + (256 * (256 * (256 * (256 * (256 * c7 + c6) + c5) + c4) + c3) + c2) =
    256 * (256 * (256 * (256 * (256 * (256 * (256 * c7 + c6) + (c5 + c7)) + (c4 + c6)) + (c3 + c5)) + (c2 + c4)) + (c1 + c3)) + (c0 + c2) := by omega
theorem lin3 (c0 c1 c2 c3 c4 c5 c6 c7 : Nat) : 256 * (256 * (256 * (256 * (256 * (256 * (256 * c7 + c6) + c5) + c4) + c3) + c2) + c1) + c0 + (256 * (256 * (256 * c7 + c6) + c5) + c4) =
    256 * (256 * (256 * (256 * (256 * (256 * (256 * c7 + c6) + c5) + c4) + (c3 + c7)) + (c2 + c6)) + (c1 + c5)) + (c0 + c4) := by omega
theorem sum8 (c0 c1 c2 c3 c4 c5 c6 c7 : Nat) : c0 + c1 + (c2 + c3) + (c4 + c5 + (c6 + c7)) = c0 + (c1 + (c2 + (c3 + (c4 + (c5 + (c6 + (c7 + 0))))))) := by omega
theorem ones_fold (c0 c1 c2 c3 c4 c5 c6 c7 X Y1 Y2 Y3 : Nat) (h0 : c0 ≤ 8) (h1 : c1 ≤ 8) (h2 : c2 ≤ 8) (h3 : c3 ≤ 8) (h4 : c4 ≤ 8) (h5 : c5 ≤ 8) (h6 : c6 ≤ 8) (h7 : c7 ≤ 8)
    (hX : X = 256 * (256 * (256 * (256 * (256 * (256 * (256 * c7 + c6) + c5) + c4) + c3) + c2) + c1) + c0) (hY1 : Y1 = X + X / 256) (hY2 : Y2 = Y1 + Y1 / 65536) (hY3 : Y3 = Y2 + Y2 / 4294967296) :
    Y1 < 2 ^ 64 ∧ Y2 < 2 ^ 64 ∧ Y3 < 2 ^ 64 ∧ Y3 % 128 = c0 + (c1 + (c2 + (c3 + (c4 + (c5 + (c6 + (c7 + 0))))))) := by
  have l8 : ∀ {a : Nat}, a ≤ 8 → a < 256 := fun h => Nat.lt_of_le_of_lt h (by decide)
  have l16 : ∀ {a : Nat}, a ≤ 16 → a < 256 := fun h => Nat.lt_of_le_of_lt h (by decide)
  have l32 : ∀ {a : Nat}, a ≤ 32 → a < 256 := fun h => Nat.lt_of_le_of_lt h (by decide)
  have l64 : ∀ {a : Nat}, a ≤ 64 → a < 256 := fun h => Nat.lt_of_le_of_lt h (by decide)
  have a2 : ∀ {a b : Nat}, a ≤ 8 → b ≤ 8 → a + b ≤ 16 := fun h h' => Nat.add_le_add h h'
  have a4 : ∀ {a b : Nat}, a ≤ 16 → b ≤ 16 → a + b ≤ 32 := fun h h' => Nat.add_le_add h h'
  have a8 : ∀ {a b : Nat}, a ≤ 32 → b ≤ 32 → a + b ≤ 64 := fun h h' => Nat.add_le_add h h'
  have u2 : ∀ {a : Nat}, a ≤ 8 → a ≤ 16 := fun h => Nat.le_trans h (by decide)
  have u4 : ∀ {a : Nat}, a ≤ 16 → a ≤ 32 := fun h => Nat.le_trans h (by decide)
  have d1 := dv1 _ _ _ hX (l8 h0)
  rw [d1, hX, lin1] at hY1
  have b1 := eight _ _ _ _ _ _ _ _ _ hY1 (l8 h7) (l16 (a2 h6 h7)) (l16 (a2 h5 h6)) (l16 (a2 h4 h5)) (l16 (a2 h3 h4)) (l16 (a2 h2 h3)) (l16 (a2 h1 h2)) (l16 (a2 h0 h1))
  have d2 := dv2 _ _ _ _ hY1 (l16 (a2 h1 h2)) (l16 (a2 h0 h1))
  rw [d2, hY1, lin2] at hY2
  have q0 := a4 (a2 h0 h1) (a2 h2 h3)
  have q1 := a4 (a2 h1 h2) (a2 h3 h4)
  have q2 := a4 (a2 h2 h3) (a2 h4 h5)
  have q3 := a4 (a2 h3 h4) (a2 h5 h6)
  have q4 := a4 (a2 h4 h5) (a2 h6 h7)
  have q5 := a4 (a2 h5 h6) (u2 h7)
  have q6 := u4 (a2 h6 h7)
  have q7 := u4 (u2 h7)
  have b2 := eight _ _ _ _ _ _ _ _ _ hY2 (l32 q7) (l32 q6) (l32 q5) (l32 q4) (l32 q3) (l32 q2) (l32 q1) (l32 q0)
  have d3 := dv4 _ _ _ _ _ _ hY2 (l32 q3) (l32 q2) (l32 q1) (l32 q0)
  rw [d3, hY2, lin3] at hY3
  have b3 := eight _ _ _ _ _ _ _ _ _ hY3 (l32 q7) (l32 q6) (l32 q5) (l32 q4) (l64 (a8 q3 q7)) (l64 (a8 q2 q6)) (l64 (a8 q1 q5)) (l64 (a8 q0 q4))
  refine ⟨b1, b2, b3, ?_⟩
  rw [← sum8]
  exact low7 _ _ _ _ hY3 rfl (Nat.lt_of_le_of_lt (a8 q0 q4) (by decide))
/-- The masks' reckoning, over natural numbers. -/
theorem ones (x : Nat) (hx : x < 2 ^ 64) : ∃ X Y1 Y2 Y3, X = s123 8 x ∧ Y1 = X + X / 256 ∧ Y2 = Y1 + Y1 / 65536 ∧ Y3 = Y2 + Y2 / 4294967296 ∧ Y1 < 2 ^ 64 ∧ Y2 < 2 ^ 64 ∧ Y3 < 2 ^ 64 ∧ Y3 % 128 = pc 64 x := by
  obtain ⟨b0, b1, b2, b3, b4, b5, b6, b7, h0, h1, h2, h3, h4, h5, h6, h7, e⟩ := bytes x hx
  refine ⟨_, _, _, _, rfl, rfl, rfl, rfl, ?_⟩
  have eX : s123 8 x = 256 * (256 * (256 * (256 * (256 * (256 * (256 * pc 8 b7 + pc 8 b6) + pc 8 b5) + pc 8 b4) + pc 8 b3) + pc 8 b2) + pc 8 b1) + pc 8 b0 := by
    rw [e, s123_step 7 _ _ h0, s123_step 6 _ _ h1, s123_step 5 _ _ h2, s123_step 4 _ _ h3, s123_step 3 _ _ h4, s123_step 2 _ _ h5, s123_step 1 _ _ h6, s123_step 0 _ _ h7]
    rw [show s123 0 0 = 0 from rfl, Nat.mul_zero, Nat.zero_add]
  have ep : pc 64 x = pc 8 b0 + (pc 8 b1 + (pc 8 b2 + (pc 8 b3 + (pc 8 b4 + (pc 8 b5 + (pc 8 b6 + (pc 8 b7 + 0))))))) := by
    rw [e, pc_byte 56 _ _ h0, pc_byte 48 _ _ h1, pc_byte 40 _ _ h2, pc_byte 32 _ _ h3, pc_byte 24 _ _ h4, pc_byte 16 _ _ h5, pc_byte 8 _ _ h6, pc_byte 0 _ _ h7]
    rfl
  rw [ep]
  exact ones_fold _ _ _ _ _ _ _ _ _ _ _ _ (pc_le 8 b0) (pc_le 8 b1) (pc_le 8 b2) (pc_le 8 b3) (pc_le 8 b4) (pc_le 8 b5) (pc_le 8 b6) (pc_le 8 b7) eX rfl rfl rfl
def oA (x : Int) : Int := IntKind.u64.wrap ((Go.bits .and .u64 (x / 2) 6148914691236517205) + (Go.bits .and .u64 x 6148914691236517205))
def oB (x : Int) : Int := IntKind.u64.wrap ((Go.bits .and .u64 (x / 4) 3689348814741910323) + (Go.bits .and .u64 x 3689348814741910323))
def oC (x : Int) : Int := Go.bits .and .u64 (IntKind.u64.wrap ((x / 16) + x)) 1085102592571150095
def oD (x : Int) : Int := IntKind.u64.wrap (x + (x / 256))
def oE (x : Int) : Int := IntKind.u64.wrap (x + (x / 65536))
def oF (x : Int) : Int := IntKind.u64.wrap (x + (x / 4294967296))
theorem and127_i (a : Int) : Go.bits .and .i64 a 127 = a % 128 := by
  have hx : (BitVec.ofInt 64 a).toNat = (a % 18446744073709551616).toNat := by simp [BitVec.toNat_ofInt]
  have h3 : (BitVec.ofInt 64 127).toNat = 127 := rfl
  have e : Go.bits .and .i64 a 127 = IntKind.i64.wrap ((((BitVec.ofInt 64 a) &&& (BitVec.ofInt 64 127)).toNat : Nat) : Int) := rfl
  rw [e, BitVec.toNat_and, hx, h3, show (127 : Nat) = 2 ^ 7 - 1 from rfl, Nat.and_two_pow_sub_one_eq_mod, IntKind.wrap_i64]
  omega
theorem oA_n {x : Nat} (hx : x < 2 ^ 64) : oA (x : Int) = (s1 8 x : Nat) := by
  unfold oA
  have h1 : (Go.bits .and .u64 ((x : Int) / 2) 6148914691236517205) = ((x / 2 &&& m5 8 : Nat) : Int) := @and_u (x / 2) (m5 8) (by omega) (by decide)
  have h2 : (Go.bits .and .u64 (x : Int) 6148914691236517205) = ((x &&& m5 8 : Nat) : Int) := @and_u x (m5 8) hx (by decide)
  have h3 := s1_lt 8 x (by decide)
  rw [h1, h2, ← Int.natCast_add]
  exact wraps_u64 _ (Int.natCast_nonneg _) (by unfold s1 at h3; exact_mod_cast h3)
theorem oB_n {x : Nat} (hx : x < 2 ^ 64) : oB (x : Int) = (s2 8 x : Nat) := by
  unfold oB
  have h1 : (Go.bits .and .u64 ((x : Int) / 4) 3689348814741910323) = ((x / 4 &&& m3 8 : Nat) : Int) := @and_u (x / 4) (m3 8) (by omega) (by decide)
  have h2 : (Go.bits .and .u64 (x : Int) 3689348814741910323) = ((x &&& m3 8 : Nat) : Int) := @and_u x (m3 8) hx (by decide)
  have h3 := s2_lt 8 x (by decide)
  rw [h1, h2, ← Int.natCast_add]
  exact wraps_u64 _ (Int.natCast_nonneg _) (by unfold s2 at h3; exact_mod_cast h3)
theorem s2_le (x : Nat) : s2 8 x ≤ 7378697629483820646 := by
  have h : ∀ y, (y &&& m3 8) ≤ m3 8 := fun y => Nat.and_le_right
  have hm : m3 8 = 3689348814741910323 := by decide
  have := h x
  have := h (x / 4)
  unfold s2
  omega
theorem oC_n {x : Nat} (hx : x ≤ 7378697629483820646) : oC (x : Int) = (s3 8 x : Nat) := by
  unfold oC
  have e : IntKind.u64.wrap (((x : Int) / 16) + (x : Int)) = ((x / 16 + x : Nat) : Int) := wraps_u64 _ (by omega) (by omega)
  rw [e]
  exact @and_u (x / 16 + x) (mf 8) (by omega) (by decide)
def bb (b : Bool) : Int := if b then 1 else 0
theorem bb_true : bb true = 1 := rfl
theorem bb_false : bb false = 0 := rfl
theorem bb_eq (a b : Bool) : (bb a = bb b) ↔ a = b := by cases a <;> cases b <;> decide
theorem bb_one (a : Bool) : (bb a = 1) ↔ a = true := by cases a <;> decide
theorem bb_nat (b : Bool) : bb b = ((if b then 1 else 0 : Nat) : Int) := by cases b <;> rfl
theorem wrapn {n : Nat} (h : n < 2 ^ 64) : IntKind.u64.wrap (n : Int) = (n : Int) := wraps_u64 _ (Int.natCast_nonneg _) (by exact_mod_cast h)
theorem testBit_and1 (x j : Nat) : x >>> j &&& 1 = if x.testBit j then 1 else 0 := by
  rw [show (1 : Nat) = 2 ^ 1 - 1 from rfl, Nat.and_two_pow_sub_one_eq_mod, Nat.testBit_eq_decide_div_mod_eq, Nat.shiftRight_eq_div_pow]
  have := Nat.mod_lt (x / 2 ^ j) (show 2 > 0 by decide)
  by_cases h : x / 2 ^ j % 2 = 1
  · simp [h]
  · have : x / 2 ^ j % 2 = 0 := by omega
    simp [this]
/-- A number with its bit j made b. -/
def setB (x j : Nat) (b : Bool) : Nat := if x.testBit j = b then x else x ^^^ 2 ^ j
theorem testBit_setB (x j : Nat) (b : Bool) (i : Nat) : (setB x j b).testBit i = if i = j then b else x.testBit i := by
  unfold setB
  by_cases h : x.testBit j = b
  · rw [if_pos h]
    by_cases hi : i = j
    · rw [if_pos hi, hi, h]
    · rw [if_neg hi]
  · rw [if_neg h, Nat.testBit_xor, Nat.testBit_two_pow]
    by_cases hi : i = j
    · subst hi
      rw [if_pos rfl]
      cases hb : x.testBit i <;> cases b <;> simp_all
    · rw [if_neg hi]
      have : ¬ j = i := fun e => hi e.symm
      simp [this]
theorem setB_lt {x j : Nat} {b : Bool} (hx : x < 2 ^ 64) (hj : j < 64) : setB x j b < 2 ^ 64 := by
  unfold setB
  split
  · exact hx
  · exact Nat.xor_lt_two_pow hx (Nat.pow_lt_pow_right (by decide) hj)
theorem bit_ge {x i : Nat} (hx : x < 2 ^ 64) (hi : 64 ≤ i) : x.testBit i = false := Nat.testBit_lt_two_pow (Nat.lt_of_lt_of_le hx (Nat.pow_le_pow_right (by decide) hi))
/-- Two words with the same bits. -/
theorem word_ext {x y : Nat} (hx : x < 2 ^ 64) (hy : y < 2 ^ 64) (h : ∀ i, i < 64 → x.testBit i = y.testBit i) : x = y := by
  refine Nat.eq_of_testBit_eq (fun i => ?_)
  rcases Nat.lt_or_ge i 64 with hi | hi
  · exact h i hi
  · rw [bit_ge hx hi, bit_ge hy hi]
/-- The word whose bits below n f tells. -/
def ofB (f : Nat → Bool) : Nat → Nat
  | 0 => 0
  | n + 1 => setB (ofB f n) n (f n)
theorem testBit_ofB (f : Nat → Bool) : ∀ n i, (ofB f n).testBit i = (decide (i < n) && f i)
  | 0, i => by simp [ofB]
  | n + 1, i => by
    unfold ofB
    rw [testBit_setB, testBit_ofB f n i]
    by_cases h : i = n
    · subst h; simp
    · rw [if_neg h]
      by_cases h2 : i < n
      · simp [h2, Nat.lt_succ_of_lt h2]
      · have : ¬ i < n + 1 := by omega
        simp [h2, this]
theorem ofB_lt (f : Nat → Bool) : ∀ n, n ≤ 64 → ofB f n < 2 ^ 64
  | 0, _ => by simp [ofB]
  | n + 1, h => setB_lt (ofB_lt f n (by omega)) (by omega)
theorem pc_bits (x : Nat) : ∀ (n j : Nat), pc (n + 1) (x / 2 ^ j) = (if x.testBit j then 1 else 0) + pc n (x / 2 ^ (j + 1)) := by
  intro n j
  have h : pc (n + 1) (x / 2 ^ j) = x / 2 ^ j % 2 + pc n (x / 2 ^ j / 2) := rfl
  rw [h, Nat.div_div_eq_div_mul, ← Nat.pow_succ, Nat.testBit_eq_decide_div_mod_eq]
  have := Nat.mod_lt (x / 2 ^ j) (show 2 > 0 by decide)
  congr 1
  by_cases h : x / 2 ^ j % 2 = 1
  · simp [h]
  · have : x / 2 ^ j % 2 = 0 := by omega
    simp [this]
theorem and_u' {a b : Nat} (ha : a < 2 ^ 64) (hb : b < 2 ^ 64) : (a &&& b) < 2 ^ 64 := Nat.and_lt_two_pow _ hb
theorem andNot_u {a b : Nat} (ha : a < 2 ^ 64) (hb : b < 2 ^ 64) : ∃ c : Nat, Go.bits .andNot .u64 (a : Int) (b : Int) = (c : Int) ∧ c < 2 ^ 64 ∧ ∀ i, c.testBit i = (a.testBit i && !b.testBit i) := by
  refine ⟨((BitVec.ofNat 64 a) &&& ~~~(BitVec.ofNat 64 b)).toNat, ?_, BitVec.isLt _, fun i => ?_⟩
  · have e : Go.bits .andNot .u64 (a : Int) (b : Int) = IntKind.u64.wrap ((((BitVec.ofInt 64 a) &&& ~~~(BitVec.ofInt 64 b)).toNat : Nat) : Int) := rfl
    rw [e, BitVec.ofInt_natCast, BitVec.ofInt_natCast]
    exact wrapn (BitVec.isLt _)
  · rw [← BitVec.getLsbD, BitVec.getLsbD_and, BitVec.getLsbD_not, BitVec.getLsbD_ofNat, BitVec.getLsbD_ofNat]
    rcases Nat.lt_or_ge i 64 with hi | hi
    · simp [hi]
    · rw [bit_ge ha hi]
      simp
def pcs : Nat → Nat → Nat
  | 0, _ => 0
  | n + 1, x => pcs n x + (if x.testBit n then 1 else 0)
theorem pcs_low : ∀ n x, pcs (n + 1) x = (if x.testBit 0 then 1 else 0) + pcs n (x / 2)
  | 0, x => by simp [pcs]
  | n + 1, x => by
    have h : pcs (n + 1 + 1) x = pcs (n + 1) x + (if x.testBit (n + 1) then 1 else 0) := rfl
    have h2 : pcs (n + 1) (x / 2) = pcs n (x / 2) + (if (x / 2).testBit n then 1 else 0) := rfl
    rw [h, pcs_low n x, h2, Nat.testBit_succ]
    omega
theorem pc_pcs : ∀ n x, pc n x = pcs n x
  | 0, x => rfl
  | n + 1, x => by
    have h : pc (n + 1) x = x % 2 + pc n (x / 2) := rfl
    rw [h, pcs_low, pc_pcs n]
    congr 1
    rw [Nat.testBit_zero]
    have := Nat.mod_lt x (show 2 > 0 by decide)
    by_cases h : x % 2 = 1
    · simp [h]
    · have : x % 2 = 0 := by omega
      simp [this]
theorem pcs_or {x p : Nat} (hp : x.testBit p = false) : ∀ n, pcs n (x ||| 2 ^ p) = pcs n x + (if p < n then 1 else 0)
  | 0 => by simp [pcs]
  | n + 1 => by
    have h : pcs (n + 1) (x ||| 2 ^ p) = pcs n (x ||| 2 ^ p) + (if (x ||| 2 ^ p).testBit n then 1 else 0) := rfl
    have h2 : pcs (n + 1) x = pcs n x + (if x.testBit n then 1 else 0) := rfl
    rw [h, h2, pcs_or hp n, Nat.testBit_or, Nat.testBit_two_pow]
    by_cases e : p = n
    · subst e
      rw [hp]
      simp
    · by_cases h3 : p < n
      · have : p < n + 1 := by omega
        simp [e, h3, this]
        omega
      · have : ¬ p < n + 1 := by omega
        simp [e, h3, this]
theorem pcs_le : ∀ n x, pcs n x ≤ n
  | 0, _ => Nat.le_refl _
  | n + 1, x => by
    have := pcs_le n x
    unfold pcs
    split <;> omega
theorem ofB_succ (f : Nat → Bool) (n : Nat) : ofB f (n + 1) = setB (ofB f n) n (f n) := rfl
def wt (b : Bool) : Nat := if b then 1 else 0
/-- The power of i that one qubit's product brings. -/
def phb (ax az bx bz : Bool) : Nat := (wt (ax && az) + wt (bx && bz) + 2 * wt (az && bx) + 3 * wt ((ax ^^ bx) && (az ^^ bz))) % 4
def at4 (x z : Bool) : Int := if x && z then 2 else if x then 1 else if z then 3 else 0
def phs (ax az bx bz : Nat) : Nat → Nat
  | 0 => 0
  | n + 1 => phs ax az bx bz n + phb (ax.testBit n) (az.testBit n) (bx.testBit n) (bz.testBit n)
theorem pcs_succ (n x : Nat) : pcs (n + 1) x = pcs n x + wt (x.testBit n) := rfl
theorem phb_lt (ax az bx bz : Bool) : phb ax az bx bz ≤ 3 := by unfold phb; omega
theorem phs_le (ax az bx bz : Nat) : ∀ n, phs ax az bx bz n ≤ 3 * n
  | 0 => Nat.le_refl _
  | n + 1 => by
    have := phs_le ax az bx bz n
    have := phb_lt (ax.testBit n) (az.testBit n) (bx.testBit n) (bz.testBit n)
    unfold phs
    omega
theorem phs_mod (ax az bx bz : Nat) : ∀ n, phs ax az bx bz n % 4 = (pcs n (ax &&& az) + pcs n (bx &&& bz) + 2 * pcs n (az &&& bx) + 3 * pcs n ((ax ^^^ bx) &&& (az ^^^ bz))) % 4
  | 0 => rfl
  | n + 1 => by
    have h := phs_mod ax az bx bz n
    have e : phs ax az bx bz (n + 1) = phs ax az bx bz n + phb (ax.testBit n) (az.testBit n) (bx.testBit n) (bz.testBit n) := rfl
    rw [e, pcs_succ, pcs_succ, pcs_succ, pcs_succ, Nat.testBit_and, Nat.testBit_and, Nat.testBit_and, Nat.testBit_and, Nat.testBit_xor, Nat.testBit_xor]
    unfold phb
    omega
/-- Above a string's length nothing is counted. -/
theorem pcs_stop {n m x : Nat} (hx : x < 2 ^ n) (h : n ≤ m) : pcs m x = pcs n x := by
  obtain ⟨d, rfl⟩ : ∃ d, m = n + d := ⟨m - n, by omega⟩
  clear h
  induction d with
  | zero => rfl
  | succ d ih =>
    have : x.testBit (n + d) = false := Nat.testBit_lt_two_pow (Nat.lt_of_lt_of_le hx (Nat.pow_le_pow_right (by decide) (by omega)))
    rw [show n + (d + 1) = n + d + 1 from rfl, pcs_succ, ih, this]
    rfl
theorem pc64 {n x : Nat} (hx : x < 2 ^ n) (h : n ≤ 64) : pc 64 x = pcs n x := by rw [pc_pcs, pcs_stop hx h]
/-- The words gathered bit by bit. -/
theorem or_setB {x j : Nat} (hx : x < 2 ^ j) : x ||| 2 ^ j = setB x j true := by
  refine Nat.eq_of_testBit_eq (fun i => ?_)
  rw [testBit_setB, Nat.testBit_or, Nat.testBit_two_pow]
  by_cases h : i = j
  · subst h; simp
  · have : ¬ j = i := fun e => h e.symm
    simp [h, this]
theorem same_setB {x j : Nat} (hx : x < 2 ^ j) : x = setB x j false := by
  unfold setB
  rw [if_pos (Nat.testBit_lt_two_pow hx)]
theorem ofB_lt' (f : Nat → Bool) (n : Nat) : ofB f n < 2 ^ n := by
  refine Nat.lt_pow_two_of_testBit _ (fun i hi => ?_)
  rw [testBit_ofB]
  have : ¬ i < n := by omega
  simp [this]
theorem ofB_eq {f : Nat → Bool} {n y : Nat} (hy : y < 2 ^ n) (h : ∀ i, i < n → f i = y.testBit i) : ofB f n = y := by
  refine Nat.eq_of_testBit_eq (fun i => ?_)
  rw [testBit_ofB]
  by_cases hi : i < n
  · simp [hi, h i hi]
  · rw [Nat.testBit_lt_two_pow (Nat.lt_of_lt_of_le hy (Nat.pow_le_pow_right (by decide) (by omega)))]
    simp [hi]
theorem xor_lt {a b n : Nat} (ha : a < 2 ^ n) (hb : b < 2 ^ n) : a ^^^ b < 2 ^ n := Nat.xor_lt_two_pow ha hb
/-- The weight. -/
def wts (x z : Nat) : Nat → Nat
  | 0 => 0
  | n + 1 => wts x z n + wt (x.testBit n || z.testBit n)
theorem wts_pcs (x z : Nat) : ∀ n, wts x z n = pcs n (x ||| z)
  | 0 => rfl
  | n + 1 => by
    rw [pcs_succ, Nat.testBit_or, ← wts_pcs x z n]
    rfl
end Go.Proofs.YtlobgpgdknjhlaaGreat.B
