/- The small functions: numbers of ones, strings' checks, commuting. -/
import Derived.Test.YtfnmembjgclhoaaCodM
namespace Go.Proofs.Ytfnmembjgclhoaa.CD
open Go Go.RowKit
set_option linter.unusedVariables false
set_option linter.unusedSimpArgs false
open B (pc pcs oA oB oC oD oE oF)

def pop (x : Nat) : Nat := pcs 64 x
theorem pop_le (x : Nat) : pop x ≤ 64 := B.pcs_le 64 x

theorem mask127 (Y r : Nat) (h : Y % 128 = r) : Go.bits .and .i64 (wrap64 (Y : Int)) 127 = (r : Int) := by
  rw [B.and127_i]
  unfold wrap64
  omega

set_option maxRecDepth 100000 in
theorem ones_calls (x : Nat) (hx : U x) (w : World) : Calls Try.prog 43 #[.int .u64 x] w fun e w' => e = .returned (.int .i64 (pop x)) ∧ w' = w := by
  obtain ⟨X, Y1, Y2, Y3, eX, e1, e2, e3, b1, b2, b3, hp⟩ := B.ones x hx
  have hA := B.oA_n hx
  have hA' := B.s1_lt 8 x (by decide)
  have hB := B.oB_n hA'
  have hC := B.oC_n (B.s2_le (B.s1 8 x))
  have hD : oD (X : Int) = (Y1 : Int) := by
    unfold oD
    rw [show (X : Int) + (X : Int) / 256 = (Y1 : Int) by omega]
    exact B.wraps_u64 _ (by omega) (by omega)
  have hE : oE (Y1 : Int) = (Y2 : Int) := by
    unfold oE
    rw [show (Y1 : Int) + (Y1 : Int) / 65536 = (Y2 : Int) by omega]
    exact B.wraps_u64 _ (by omega) (by omega)
  have hF : oF (Y2 : Int) = (Y3 : Int) := by
    unfold oF
    rw [show (Y2 : Int) + (Y2 : Int) / 4294967296 = (Y3 : Int) by omega]
    exact B.wraps_u64 _ (by omega) (by omega)
  have eX' : ((B.s3 8 (B.s2 8 (B.s1 8 x)) : Nat) : Int) = (X : Int) := by rw [eX]; rfl
  rw [eX'] at hC
  have hpr : Y3 % 128 = pop x := by unfold pop; rw [← B.pc_pcs]; exact hp
  have hle := pop_le x
  generalize pop x = r at hpr hle ⊢
  clear hp eX' eX e1 e2 e3 b1 b2 hA'
  have hG : Go.bits .and .i64 (wrap64 (Y3 : Int)) 127 = (r : Int) := mask127 Y3 r hpr
  generalize B.s1 8 x = A1 at hA hB hC
  generalize B.s2 8 A1 = A2 at hB hC
  clear b3 hpr hle
  unfold oA at hA
  unfold oB at hB
  unfold oC at hC
  unfold oD at hD
  unfold oE at hE
  unfold oF at hF
  go_enter Try.func43, Try.ntmps43
  go_wp2
  go_ret
  exact ⟨rfl, rfl⟩

theorem u_and {a b : Nat} (ha : U a) (hb : U b) : U (a &&& b) := B.and_u' ha hb
theorem u_or {a b : Nat} (ha : U a) (hb : U b) : U (a ||| b) := Nat.or_lt_two_pow ha hb
theorem u_xor {a b : Nat} (ha : U a) (hb : U b) : U (a ^^^ b) := Nat.xor_lt_two_pow ha hb
theorem and_eq {a b : Nat} (ha : U a) (hb : U b) : Go.bits .and .u64 (a : Int) (b : Int) = ((a &&& b : Nat) : Int) := B.and_u ha hb
theorem or_eq {a b : Nat} (ha : U a) (hb : U b) : Go.bits .or .u64 (a : Int) (b : Int) = ((a ||| b : Nat) : Int) := B.or_u ha hb
theorem xor_eq {a b : Nat} (ha : U a) (hb : U b) : Go.bits .xor .u64 (a : Int) (b : Int) = ((a ^^^ b : Nat) : Int) := B.xor_u ha hb

theorem ret_bool {a b : Bool} (h : a = b) : Ending.returned (.bool a) = .returned (.bool b) := by rw [h]
theorem ret_int {k : IntKind} {a b : Int} (h : a = b) : Ending.returned (.int k a) = .returned (.int k b) := by rw [h]

/-! apart -/
def apt (a b : Pau) : Bool := decide ((pop (a.x &&& b.z) + pop (a.z &&& b.x)) % 2 = 1)
set_option maxRecDepth 100000 in
set_option maxHeartbeats 1000000 in
theorem apart_calls (a b : Pau) (ha : WF a) (hb : WF b) (w : World) : Calls Try.prog 29 #[(Value.agg #[.int .i64 a.n, .int .u64 a.x, .int .u64 a.z, .int .i64 a.ph]), (Value.agg #[.int .i64 b.n, .int .u64 b.x, .int .u64 b.z, .int .i64 b.ph])] w fun e w' => e = .returned (.bool (apt a b)) ∧ Grew w w' := by
  have h1 := and_eq ha.x hb.z
  have h2 := and_eq ha.z hb.x
  have o1 := fun W => ones_calls _ (u_and ha.x hb.z) W
  have o2 := fun W => ones_calls _ (u_and ha.z hb.x) W
  have l1 := pop_le (a.x &&& b.z)
  have l2 := pop_le (a.z &&& b.x)
  unfold apt
  generalize pop (a.x &&& b.z) = p at *
  generalize pop (a.z &&& b.x) = q at *
  generalize a.x &&& b.z = X at *
  generalize a.z &&& b.x = Y at *
  obtain ⟨n, x, z, ph⟩ := a
  obtain ⟨n', x', z', ph'⟩ := b
  clear ha hb
  have hv : ((↑p + ↑q : Int) % 2 == 1) = decide ((p + q) % 2 = 1) := by
    rw [Bool.eq_iff_iff]; simp; omega
  have HV := Lib.hid hv
  clear hv
  go_enter Try.func29, Try.ntmps29
  go_wp2
  go_quiet (first | (go_at_call 43; with_reducible exact Calls.quiet_of_same (o1 _)) | (go_at_call 43; with_reducible exact Calls.quiet_of_same (o2 _)))
  go_wp2
  go_ret
  exact ⟨ret_bool HV.out, (((Grew.refl _).alloc _).alloc _).drewN _⟩

/-! strings' checks -/
theorem div_lt {x n : Nat} (h : n ≤ 64) : ((x : Int) / 2 ^ ((n : Int)).toNat == 0) = decide (x < 2 ^ n) := by
  rw [Bool.eq_iff_iff]
  simp only [Int.toNat_natCast, beq_iff_eq, decide_eq_true_eq]
  rw [show ((x : Int) / 2 ^ n) = ((x / 2 ^ n : Nat) : Int) by push_cast; rfl]
  rw [Int.natCast_eq_zero, Nat.div_eq_zero_iff]
  have := Nat.two_pow_pos n
  omega
set_option maxRecDepth 100000 in
theorem below_calls (x n : Nat) (hx : U x) (hn : n ≤ 64) (w : World) : Calls Try.prog 49 #[.int .u64 x, .int .i64 n] w fun e w' => e = .returned (.bool (decide (x < 2 ^ n))) ∧ w' = w := by
  have hd := div_lt (x := x) hn
  by_cases h : n = 64
  · subst h
    have hv : decide (x < 2 ^ 64) = true := decide_eq_true hx
    rw [hv]
    clear hd hv hx
    go_enter Try.func49, Try.ntmps49
    go_wp2
    go_ret
    exact ⟨rfl, rfl⟩
  · have h1 : n < 64 := by omega
    have h2 : ((n : Int) == 64) = false := by simp; omega
    have HD := Lib.hid hd
    clear hd hx h
    generalize decide (x < 2 ^ n) = r at HD ⊢
    go_enter Try.func49, Try.ntmps49
    go_wp2
    go_ret
    exact ⟨ret_bool (by rw [← HD.out]; rfl), rfl⟩

/-- A Pauli string in its one form. -/
structure Ok (p : Pau) : Prop where
  n0 : 0 ≤ p.n
  n1 : p.n ≤ 64
  p0 : 0 ≤ p.ph
  p1 : p.ph ≤ 3
  x : p.x < 2 ^ p.n.toNat
  z : p.z < 2 ^ p.n.toNat
set_option maxRecDepth 100000 in
theorem check_ok (p : Pau) (hw : WF p) (h : Ok p) (w : World) : Calls Try.prog 24 #[(Value.agg #[.int .i64 p.n, .int .u64 p.x, .int .u64 p.z, .int .i64 p.ph])] w fun e w' => e = .returned (.int .i64 0) ∧ Below w.heap.size w w' := by
  obtain ⟨n, x, z, ph⟩ := p
  obtain ⟨a1, a2, a3, a4, a5, a6⟩ := h
  simp only at a1 a2 a3 a4 a5 a6
  obtain ⟨m, rfl⟩ : ∃ m : Nat, n = (m : Int) := ⟨n.toNat, by omega⟩
  rw [Int.toNat_natCast] at a5 a6
  have hor := or_eq hw.x hw.z
  have hb := below_calls (x ||| z) m (u_or hw.x hw.z) (by omega) 
  have hlt : (x ||| z) < 2 ^ m := Nat.or_lt_two_pow a5 a6
  rw [decide_eq_true hlt] at hb
  simp only at hor
  generalize x ||| z = y at hor hb
  clear hw a5 a6 hlt
  go_enter Try.func24, Try.ntmps24
  go_wp2_with (go_at_call 49; refine (hb _).mono ?_; rintro e w' ⟨rfl, rfl⟩)
  go_ret
  exact ⟨rfl, below1 _ _⟩
set_option maxRecDepth 100000 in
theorem check_bad (p : Pau) (hw : WF p) (h : ¬ Ok p) (w : World) : Calls Try.prog 24 #[(Value.agg #[.int .i64 p.n, .int .u64 p.x, .int .u64 p.z, .int .i64 p.ph])] w fun e w' => e = .returned (.int .i64 70) ∧ Below w.heap.size w w' := by
  obtain ⟨n, x, z, ph⟩ := p
  by_cases a1 : n < 0
  · clear hw h
    go_enter Try.func24, Try.ntmps24
    go_wp2
    go_ret
    exact ⟨rfl, below1 _ _⟩
  by_cases a2 : 64 < n
  · have d1 : decide (n < 0) = false := decide_eq_false a1
    clear hw h a1
    go_enter Try.func24, Try.ntmps24
    go_wp2
    go_ret
    exact ⟨rfl, below1 _ _⟩
  have b1 : 0 ≤ n := by omega
  have b2 : n ≤ 64 := by omega
  by_cases a3 : ph < 0
  · clear hw h a1 a2
    go_enter Try.func24, Try.ntmps24
    go_wp2
    go_ret
    exact ⟨rfl, below1 _ _⟩
  have b3 : 0 ≤ ph := by omega
  by_cases a4 : 3 < ph
  · clear hw h a1 a2 a3
    go_enter Try.func24, Try.ntmps24
    go_wp2
    go_ret
    exact ⟨rfl, below1 _ _⟩
  have b4 : ph ≤ 3 := by omega
  obtain ⟨m, rfl⟩ : ∃ m : Nat, n = (m : Int) := ⟨n.toNat, by omega⟩
  have hlt : ¬ (x ||| z) < 2 ^ m := fun hlt => h ⟨b1, b2, b3, b4, by
    simp only [Int.toNat_natCast]
    exact Nat.lt_of_le_of_lt Nat.left_le_or hlt, by
    simp only [Int.toNat_natCast]
    exact Nat.lt_of_le_of_lt Nat.right_le_or hlt⟩
  have hor := or_eq hw.x hw.z
  have hb := below_calls (x ||| z) m (u_or hw.x hw.z) (by omega) 
  rw [decide_eq_false hlt] at hb
  simp only at hor
  generalize x ||| z = y at hor hb
  clear hw hlt h a1 a2 a3 a4
  go_enter Try.func24, Try.ntmps24
  go_wp2_with (go_at_call 49; refine (hb _).mono ?_; rintro e w' ⟨rfl, rfl⟩)
  go_ret
  exact ⟨rfl, below1 _ _⟩

theorem div_zero {x m : Nat} (h : x < 2 ^ m) : (x : Int) / 2 ^ m = 0 := by
  rw [show ((x : Int) / 2 ^ m) = ((x / 2 ^ m : Nat) : Int) by push_cast; rfl, Nat.div_eq_of_lt h]; rfl
theorem div_pos {x m : Nat} (h : ¬ x < 2 ^ m) : ((x : Int) / 2 ^ m != 0) = true := by
  rw [show ((x : Int) / 2 ^ m) = ((x / 2 ^ m : Nat) : Int) by push_cast; rfl]
  have h2 := Nat.div_pos (Nat.le_of_not_lt h) (Nat.two_pow_pos m)
  generalize x / 2 ^ m = q at h2 ⊢
  rw [bne_iff_ne]
  omega
set_option maxRecDepth 100000 in
theorem refcheck_ok (p : Pau) (hw : WF p) (h : Ok p) (w : World) : Calls Try.prog 23 #[(Value.agg #[.int .i64 p.n, .int .u64 p.x, .int .u64 p.z, .int .i64 p.ph])] w fun e w' => e = .returned (.int .i64 0) ∧ Below w.heap.size w w' := by
  obtain ⟨n, x, z, ph⟩ := p
  obtain ⟨a1, a2, a3, a4, a5, a6⟩ := h
  simp only at a1 a2 a3 a4 a5 a6
  obtain ⟨m, rfl⟩ : ∃ m : Nat, n = (m : Int) := ⟨n.toNat, by omega⟩
  rw [Int.toNat_natCast] at a5 a6
  have hx := div_zero a5
  have hz := div_zero a6
  clear hw a5 a6
  by_cases hm : m < 64
  · go_enter Try.func23, Try.ntmps23
    go_wp2
    go_ret
    exact ⟨rfl, below1 _ _⟩
  · have hm' : m = 64 := by omega
    subst hm'
    clear hx hz hm
    go_enter Try.func23, Try.ntmps23
    go_wp2
    go_ret
    exact ⟨rfl, below1 _ _⟩
set_option maxRecDepth 100000 in
theorem refcheck_bad (p : Pau) (hw : WF p) (h : ¬ Ok p) (w : World) : Calls Try.prog 23 #[(Value.agg #[.int .i64 p.n, .int .u64 p.x, .int .u64 p.z, .int .i64 p.ph])] w fun e w' => e = .returned (.int .i64 70) ∧ Below w.heap.size w w' := by
  obtain ⟨n, x, z, ph⟩ := p
  by_cases a1 : n < 0
  · clear hw h
    go_enter Try.func23, Try.ntmps23
    go_wp2
    go_ret
    exact ⟨rfl, below1 _ _⟩
  by_cases a2 : 64 < n
  · have d1 : decide (n < 0) = false := decide_eq_false a1
    clear hw h a1
    go_enter Try.func23, Try.ntmps23
    go_wp2
    go_ret
    exact ⟨rfl, below1 _ _⟩
  have b1 : 0 ≤ n := by omega
  have b2 : n ≤ 64 := by omega
  by_cases a3 : ph < 0
  · clear hw h a1 a2
    go_enter Try.func23, Try.ntmps23
    go_wp2
    go_ret
    exact ⟨rfl, below1 _ _⟩
  have b3 : 0 ≤ ph := by omega
  by_cases a4 : 3 < ph
  · clear hw h a1 a2 a3
    go_enter Try.func23, Try.ntmps23
    go_wp2
    go_ret
    exact ⟨rfl, below1 _ _⟩
  have b4 : ph ≤ 3 := by omega
  obtain ⟨m, rfl⟩ : ∃ m : Nat, n = (m : Int) := ⟨n.toNat, by omega⟩
  have hlt : ¬ (x < 2 ^ m ∧ z < 2 ^ m) := fun hlt => h ⟨b1, b2, b3, b4, by simpa using hlt.1, by simpa using hlt.2⟩
  have hm : m < 64 := by
    apply Classical.byContradiction
    intro hm
    have hm' : m = 64 := by omega
    subst hm'
    exact hlt ⟨hw.x, hw.z⟩
  clear h a1 a2 a3 a4 hw
  by_cases hx : x < 2 ^ m
  · have hz := div_pos (fun h => hlt ⟨hx, h⟩)
    have hx' := div_zero hx
    clear hlt hx
    go_enter Try.func23, Try.ntmps23
    go_wp2
    go_ret
    exact ⟨rfl, below1 _ _⟩
  · have hx' := div_pos hx
    clear hlt hx
    go_enter Try.func23, Try.ntmps23
    go_wp2
    go_ret
    exact ⟨rfl, below1 _ _⟩

/-! fits -/
def Fit (p : Pau) (n : Int) : Prop := Ok p ∧ p.n = n ∧ p.ph % 2 = 0
set_option maxRecDepth 100000 in
theorem fits_yes (p : Pau) (n : Int) (hw : WF p) (h : Fit p n) (w : World) : Calls Try.prog 28 #[(Value.agg #[.int .i64 p.n, .int .u64 p.x, .int .u64 p.z, .int .i64 p.ph]), .int .i64 n] w fun e w' => e = .returned (.bool true) ∧ Below w.heap.size w w' := by
  obtain ⟨h1, h2, h3⟩ := h
  have hc := fun W => check_ok p hw h1 W
  obtain ⟨m, x, z, ph⟩ := p
  simp only at h2 h3
  subst h2
  have h4 := h1.p0
  have h5 := h1.p1
  simp only at h4 h5
  clear hw h1
  go_enter Try.func28, Try.ntmps28
  go_wp2_with (go_at_call 24; refine (hc _).mono ?_; rintro e w' ⟨rfl, hb⟩; obtain ⟨hbc, hbf⟩ := bcell hb; have HB := Lib.hid hb; clear hb)
  go_ret
  exact ⟨rfl, (below1 _ _).trans (HB.out.mono (by simp))⟩
set_option maxRecDepth 100000 in
theorem fits_no (p : Pau) (n : Int) (hw : WF p) (h : ¬ Fit p n) (w : World) : Calls Try.prog 28 #[(Value.agg #[.int .i64 p.n, .int .u64 p.x, .int .u64 p.z, .int .i64 p.ph]), .int .i64 n] w fun e w' => e = .returned (.bool false) ∧ Below w.heap.size w w' := by
  by_cases h1 : Ok p
  · have hc := fun W => check_ok p hw h1 W
    have h4 := h1.p0
    have h5 := h1.p1
    by_cases h2 : p.n = n
    · have h3 : (p.ph % 2 == 0) = false := by simp; exact fun e => h ⟨h1, h2, by omega⟩
      clear hw h1 h
      obtain ⟨m, x, z, ph⟩ := p
      simp only at h2 h3 h4 h5
      subst h2
      go_enter Try.func28, Try.ntmps28
      go_wp2_with (go_at_call 24; refine (hc _).mono ?_; rintro e w' ⟨rfl, hb⟩; obtain ⟨hbc, hbf⟩ := bcell hb; have HB := Lib.hid hb; clear hb)
      go_ret
      exact ⟨rfl, (below1 _ _).trans (HB.out.mono (by simp))⟩
    · have h6 : (p.n == n) = false := by simpa using h2
      clear hw h1 h h2
      obtain ⟨m, x, z, ph⟩ := p
      simp only at h6 h4 h5
      go_enter Try.func28, Try.ntmps28
      go_wp2_with (go_at_call 24; refine (hc _).mono ?_; rintro e w' ⟨rfl, hb⟩; obtain ⟨hbc, hbf⟩ := bcell hb; have HB := Lib.hid hb; clear hb)
      go_ret
      exact ⟨rfl, (below1 _ _).trans (HB.out.mono (by simp))⟩
  · have hc := fun W => check_bad p hw h1 W
    clear hw h1 h
    obtain ⟨m, x, z, ph⟩ := p
    go_enter Try.func28, Try.ntmps28
    go_wp2_with (go_at_call 24; refine (hc _).mono ?_; rintro e w' ⟨rfl, hb⟩; obtain ⟨hbc, hbf⟩ := bcell hb; have HB := Lib.hid hb; clear hb)
    go_ret
    exact ⟨rfl, (below1 _ _).trans (HB.out.mono (by simp))⟩

/-! one bit -/
def bI (b : Bool) : Int := if b then 1 else 0
theorem bit_eq {x j : Nat} (hx : U x) : Go.bits .and .u64 ((x : Int) / 2 ^ j) 1 = bI (x.testBit j) := by
  have h1 : x >>> j < 2 ^ 64 := Nat.lt_of_le_of_lt (by rw [Nat.shiftRight_eq_div_pow]; exact Nat.div_le_self _ _) hx
  have h2 := @B.and_u (x >>> j) 1 h1 (by decide)
  rw [show ((x : Int) / 2 ^ j) = ((x >>> j : Nat) : Int) by rw [Nat.shiftRight_eq_div_pow]; push_cast; rfl]
  rw [show ((1 : Nat) : Int) = 1 from rfl] at h2
  rw [h2, B.testBit_and1]
  unfold bI
  split <;> rfl
set_option maxRecDepth 100000 in
theorem part_lo (p : Pau) (j : Nat) (hw : WF p) (hj : j < 64) (w : World) : Calls Try.prog 52 #[(Value.agg #[.int .i64 p.n, .int .u64 p.x, .int .u64 p.z, .int .i64 p.ph]), .int .i64 j] w fun e w' => e = .returned (.int .u64 (bI (p.x.testBit j))) ∧ Below w.heap.size w w' := by
  have hb := bit_eq (j := j) hw.x
  generalize bI (p.x.testBit j) = r at hb ⊢
  obtain ⟨m, x, z, ph⟩ := p
  simp only at hb
  clear hw
  go_enter Try.func52, Try.ntmps52
  go_wp2
  go_ret
  exact ⟨rfl, below1 _ _⟩
set_option maxRecDepth 100000 in
theorem part_hi (p : Pau) (j : Nat) (hw : WF p) (hj : j < 64) (w : World) : Calls Try.prog 52 #[(Value.agg #[.int .i64 p.n, .int .u64 p.x, .int .u64 p.z, .int .i64 p.ph]), .int .i64 ((64 : Int) + j)] w fun e w' => e = .returned (.int .u64 (bI (p.z.testBit j))) ∧ Below w.heap.size w w' := by
  have hb := bit_eq (j := j) hw.z
  generalize bI (p.z.testBit j) = r at hb ⊢
  obtain ⟨m, x, z, ph⟩ := p
  simp only at hb
  clear hw
  have he : (64 : Int) + (j : Int) - 64 = (j : Int) := by omega
  go_enter Try.func52, Try.ntmps52
  go_wp2
  go_ret
  exact ⟨rfl, below1 _ _⟩

/-! the document's commuting -/
theorem bI_01 (b : Bool) : 0 ≤ bI b ∧ bI b ≤ 1 := by cases b <;> decide
theorem bI_mul (a b : Bool) : IntKind.u64.wrap (bI a * bI b) = bI (a && b) := by cases a <;> cases b <;> decide
theorem bI_add (a b : Bool) : IntKind.u64.wrap (bI a + bI b) = bI a + bI b := by cases a <;> cases b <;> decide
theorem bI_wt (b : Bool) : bI b = ((B.wt b : Nat) : Int) := by cases b <;> rfl
theorem apt_not (a b : Pau) : ((((pcs 64 (a.x &&& b.z) : Nat) : Int) + ((pcs 64 (a.z &&& b.x) : Nat) : Int)) % 2 == 0) = !apt a b := by
  unfold apt
  have hp1 : pcs 64 (a.x &&& b.z) = pop (a.x &&& b.z) := rfl
  have hp2 : pcs 64 (a.z &&& b.x) = pop (a.z &&& b.x) := rfl
  rw [hp1, hp2]
  generalize pop (a.x &&& b.z) = p1 at *
  generalize pop (a.z &&& b.x) = p2 at *
  rw [Bool.eq_iff_iff]; simp; omega
set_option maxRecDepth 100000 in
set_option maxHeartbeats 1000000 in
theorem commute_calls (a b : Pau) (ha : WF a) (hb : WF b) (w : World) : Calls Try.prog 33 #[(Value.agg #[.int .i64 a.n, .int .u64 a.x, .int .u64 a.z, .int .i64 a.ph]), (Value.agg #[.int .i64 b.n, .int .u64 b.x, .int .u64 b.z, .int .i64 b.ph])] w fun e w' => e = .returned (.bool (!apt a b)) ∧ Grew w w' := by
  have hbel := ((Grew.refl w).alloc (Obj.cells #[.int .i64 a.n, .int .u64 a.x, .int .u64 a.z, .int .i64 a.ph] 27)).alloc (Obj.cells #[.int .i64 b.n, .int .u64 b.x, .int .u64 b.z, .int .i64 b.ph] 27)
  have HA := Lib.hid ha
  have HB := Lib.hid hb
  have HBE := Lib.hid hbel
  clear ha hb hbel
  go_enter Try.func33, Try.ntmps33
  go_wp2
  go_loopw [5, 6] (fun s n wr => ∃ j q : Nat, j ≤ 64 ∧ n = .int .i64 j ∧ s = .int .i64 ((pcs j (a.x &&& b.z) + pcs j (a.z &&& b.x) : Nat) : Int) ∧ wr = ((w.alloc (Obj.cells #[.int .i64 a.n, .int .u64 a.x, .int .u64 a.z, .int .i64 a.ph] 27)).alloc (Obj.cells #[.int .i64 b.n, .int .u64 b.x, .int .u64 b.z, .int .i64 b.ph] 27)).drewN q) (fun _ n _ => 64 - (intOf n).toNat)
  case atStart => exact ⟨0, 0, by omega, rfl, rfl, rfl⟩
  case round =>
    obtain ⟨j, q, hj, rfl, rfl, rfl⟩ := hrel
    by_cases hlt : j < 64
    · have e1 := bit_eq (j := j) HA.out.x
      have e2 := bit_eq (j := j) HB.out.z
      have e3 := bit_eq (j := j) HA.out.z
      have e4 := bit_eq (j := j) HB.out.x
      have m1 := bI_mul (a.x.testBit j) (b.z.testBit j)
      have m2 := bI_mul (a.z.testBit j) (b.x.testBit j)
      have s1 := bI_add (a.x.testBit j && b.z.testBit j) (a.z.testBit j && b.x.testBit j)
      have r1 := bI_01 (a.x.testBit j && b.z.testBit j)
      have r2 := bI_01 (a.z.testBit j && b.x.testBit j)
      have t1 := B.pcs_succ j (a.x &&& b.z)
      have t2 := B.pcs_succ j (a.z &&& b.x)
      rw [Nat.testBit_and] at t1 t2
      have t3 : (((pcs j (a.x &&& b.z) + pcs j (a.z &&& b.x) : Nat) : Int)) + (bI (a.x.testBit j && b.z.testBit j) + bI (a.z.testBit j && b.x.testBit j)) = (((pcs (j + 1) (a.x &&& b.z) + pcs (j + 1) (a.z &&& b.x) : Nat) : Int)) := by
        rw [t1, t2, bI_wt, bI_wt]
        push_cast
        omega
      have l1 := B.pcs_le j (a.x &&& b.z)
      have l2 := B.pcs_le j (a.z &&& b.x)
      have T := Lib.hid t3
      clear t1 t2 t3
      generalize bI (a.x.testBit j && b.z.testBit j) = P1 at *
      generalize bI (a.z.testBit j && b.x.testBit j) = P2 at *
      generalize bI (a.x.testBit j) = B1 at *
      generalize bI (b.z.testBit j) = B2 at *
      generalize bI (a.z.testBit j) = B3 at *
      generalize bI (b.x.testBit j) = B4 at *
      obtain ⟨r1, r1'⟩ := r1
      obtain ⟨r2, r2'⟩ := r2
      go_wp2_with fail
      go_quiet (fail)
      go_wp2
      go_roundw
      case rel => exact ⟨j + 1, q + nq, by omega, by go_num, by rw [← T.out]; push_cast; rfl, rfl⟩
      case measure => simp [intOf]; omega
    · obtain rfl : j = 64 := by omega
      have HV := Lib.hid (apt_not a b)
      have l1 := B.pcs_le 64 (a.x &&& b.z)
      have l2 := B.pcs_le 64 (a.z &&& b.x)
      generalize pcs 64 (a.x &&& b.z) = p1 at *
      generalize pcs 64 (a.z &&& b.x) = p2 at *
      clear hlt hj
      go_wp2
      go_ret
      exact ⟨ret_bool HV.out, HBE.out.drewN _⟩
end Go.Proofs.Ytfnmembjgclhoaa.CD
