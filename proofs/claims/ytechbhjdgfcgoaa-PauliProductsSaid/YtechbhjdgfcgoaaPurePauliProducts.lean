/- PauliProducts: Check, Mul, Commute, Weight, Adjoint and Text answer as the document's, for any two strings made by hand. -/
import Derived.Test.YtechbhjdgfcgoaaPauB
import Derived.Test.YtechbhjdgfcgoaaPAx7
import Derived.Test.YtechbhjdgfcgoaaPAx10
namespace Go.Proofs.Ytechbhjdgfcgoaa.Pure
open Go Go.RowKit Go.Proofs.Ytechbhjdgfcgoaa.PA Go.Proofs.Ytechbhjdgfcgoaa.B Go.Proofs.YtechbhjdgfcgoaaW.PrintWords Go.Proofs.YtechbhjdgfcgoaaW.PrintLast Go.Proofs.YtechbhjdgfcgoaaW.PrintMore
set_option linter.unusedVariables false
set_option linter.unusedSimpArgs false
theorem parity_n {n x : Nat} (hx : x < 2 ^ n) (h : n ≤ 64) : bits_Parity.f (x : Int) = some ((pcs n x % 2 : Nat) : Int) := by
  unfold bits_Parity.f
  rw [count_n (Nat.lt_of_lt_of_le hx (Nat.pow_le_pow_right (by decide) h)), B.bs, pc64 hx h, and1_i]
  rfl
theorem commute_ok {n ax az p bx bz q : Nat} (ha : PauliOk n ax az p) (hb : PauliOk n bx bz q) :
    pauli_Commute.f n ax az p n bx bz q = some (decide (pcs n (ax &&& bz) % 2 = pcs n (az &&& bx) % 2), 0) := by
  have hn := ha.hn
  unfold pauli_Commute.f pauli_both.f
  rw [check_good ha, B.bs, if_pos rfl, check_good hb, B.bs, if_pos rfl, if_pos rfl, B.bs, if_pos rfl]
  rw [and_u ha.x64 hb.z64, and_u ha.z64 hb.x64, parity_n (Nat.and_lt_two_pow _ hb.hz) hn, B.bs, parity_n (Nat.and_lt_two_pow _ hb.hx) hn, B.bs]
  refine congrArg (fun t => some (t, (0 : Int))) ?_
  rw [Bool.eq_iff_iff, beq_iff_eq, decide_eq_true_iff]
  omega
theorem refcommute_ok {n ax az p bx bz q : Nat} (ha : PauliOk n ax az p) (hb : PauliOk n bx bz q) :
    Ev (fun k => cubitref07_Commute.f k n ax az p n bx bz q) (decide (pcs n (ax &&& bz) % 2 = pcs n (az &&& bx) % 2), 0) := by
  unfold cubitref07_Commute.f
  refine Ev.bind (refmul_ok ha hb) ?_
  refine Ev.bind (refmul_ok hb ha) ?_
  refine Ev.congr (f := fun _ => some _) (fun k => ?_) (Ev.now _)
  simp only [if_true]
  refine congrArg (fun t => some (t, (0 : Int))) ?_
  rw [Nat.xor_comm bx ax, Nat.xor_comm bz az]
  simp only [beq_self_eq_true, Bool.true_and]
  rw [Bool.eq_iff_iff, beq_iff_eq, decide_eq_true_iff]
  unfold mulPh
  have h1 := phs_mod ax az bx bz n
  have h2 := phs_mod bx bz ax az n
  rw [Nat.xor_comm bx ax, Nat.xor_comm bz az, Nat.and_comm bz ax] at h2
  omega
theorem weight_ok {n x z p : Nat} (h : PauliOk n x z p) : pauli_Weight.f n x z p = some (((pcs n (x ||| z) : Nat) : Int), 0) := by
  unfold pauli_Weight.f
  rw [check_good h, B.bs, if_pos rfl, or_u h.x64 h.z64, cnt (or_lt_iff.mpr ⟨h.hx, h.hz⟩) h.hn, B.bs]
theorem weight_loop {n x z p : Nat} (h : PauliOk n x z p) : ∀ (d j : Nat), j + d = n →
    Ev (fun k => cubitref07_Weight.l0 k ((wts x z j : Nat) : Int) (j : Int) n x z p) (((wts x z n : Nat) : Int), 0)
  | 0, j, hj => by
    have hjn : j = n := by omega
    subst hjn
    refine Ev.step (f := fun _ => some _) (fun k => ?_) (Ev.now _)
    rw [cubitref07_Weight.l0]
    rw [if_neg (by omega)]
  | d + 1, j, hj => by
    have hn := h.hn
    have hw : wts x z j ≤ j := by rw [wts_pcs]; exact pcs_le _ _
    refine Ev.step (fun k => ?_) (weight_loop h d (j + 1) (by omega))
    rw [cubitref07_Weight.l0]
    have e1 : wrap64 ((j : Int) + 1) = ((j + 1 : Nat) : Int) := w1n (n := 64) (by omega) (by omega)
    have e2 : wrap64 (((wts x z j : Nat) : Int) + 1) = ((wts x z j + 1 : Nat) : Int) := w1n (n := 65) (by omega) (by omega)
    have e : wts x z (j + 1) = wts x z j + wt (x.testBit j || z.testBit j) := rfl
    rw [if_pos (by omega), at_n h.x64 h.z64, B.bs, e1, e2, e]
    cases x.testBit j <;> cases z.testBit j <;> rfl
theorem refweight_ok {n x z p : Nat} (h : PauliOk n x z p) : Ev (fun k => cubitref07_Weight.f k n x z p) (((pcs n (x ||| z) : Nat) : Int), 0) := by
  unfold cubitref07_Weight.f
  refine Ev.bind (refcheck_good h) ?_
  simp only [if_true]
  rw [← wts_pcs]
  exact weight_loop h n 0 (by omega)
theorem adjoint_ok {n x z p : Nat} (h : PauliOk n x z p) : pauli_Adjoint.f n x z p = some ((n : Int), (x : Int), (z : Int), (((4 - p) % 4 : Nat) : Int), 0) := by
  have hp := h.hp
  unfold pauli_Adjoint.f
  rw [check_good h, B.bs, if_pos rfl, and3_i]
  refine congrArg (fun t => some ((n : Int), (x : Int), (z : Int), t, (0 : Int))) ?_
  unfold wrap64
  omega
theorem refadjoint_ok {n x z p : Nat} (h : PauliOk n x z p) : Ev (fun k => cubitref07_Adjoint.f k n x z p) ((n : Int), (x : Int), (z : Int), (((4 - p) % 4 : Nat) : Int), 0) := by
  have hp := h.hp
  unfold cubitref07_Adjoint.f
  refine Ev.bind (refcheck_good h) ?_
  refine Ev.congr (f := fun _ => some _) (fun k => ?_) (Ev.now _)
  rw [if_pos rfl]
  refine congrArg (fun t => some ((n : Int), (x : Int), (z : Int), t, (0 : Int))) ?_
  have e : wrap64 (4 - (p : Int)) = 4 - (p : Int) := by unfold wrap64; omega
  rw [e, Int.tmod_eq_emod_of_nonneg (by omega)]
  omega
/-! Texts. -/
def nums (l : List UInt8) : List Int := l.map fun b => ((b.toNat : Nat) : Int)
theorem nums_app (a b : List UInt8) : nums (a ++ b) = nums a ++ nums b := List.map_append
theorem str_nums (l : List UInt8) : strOfNums (nums l) = ⟨l.toArray⟩ := by
  unfold strOfNums nums
  congr 2
  rw [List.map_map]
  conv => rhs; rw [← List.map_id l]
  refine List.map_congr_left (fun b _ => ?_)
  show UInt8.ofNat ((b.toNat : Int)).toNat = b
  rw [Int.toNat_natCast]
  exact UInt8.ofNat_toNat
theorem letter_n (x z j : Nat) : ((letter (x : Int) (z : Int) j).toNat : Int) = bt (⟨#[73, 88, 89, 90]⟩ : ByteArray) (at4 (x.testBit j) (z.testBit j)) := by
  have e : ∀ y : Nat, ((y : Int) / 2 ^ j % 2 = 1) ↔ y.testBit j = true := by
    intro y
    rw [Nat.testBit_eq_decide_div_mod_eq, decide_eq_true_iff]
    have : ((y : Int) / 2 ^ j % 2) = ((y / 2 ^ j % 2 : Nat) : Int) := by push_cast; rfl
    rw [this]
    omega
  unfold letter
  by_cases hx : x.testBit j = true <;> by_cases hz : z.testBit j = true
  · rw [if_pos ((e x).mpr hx), if_pos ((e z).mpr hz), hx, hz]; decide
  · rw [if_pos ((e x).mpr hx), if_neg (fun h => hz ((e z).mp h)), hx, Bool.eq_false_iff.mpr hz]; decide
  · rw [if_neg (fun h => hx ((e x).mp h)), if_pos ((e z).mpr hz), hz, Bool.eq_false_iff.mpr hx]; decide
  · rw [if_neg (fun h => hx ((e x).mp h)), if_neg (fun h => hz ((e z).mp h)), Bool.eq_false_iff.mpr hx, Bool.eq_false_iff.mpr hz]; decide
theorem letters_length (x z : Int) : ∀ m, (letters x z m).length = m
  | 0 => rfl
  | m + 1 => by show (letters x z m).length + 1 = _; rw [letters_length x z m]
theorem text_loop {n x z p : Nat} (h : PauliOk n x z p) : ∀ (m : Nat) (acc : List UInt8), m ≤ n → acc.length + m ≤ 66 →
    Ev (fun k => cubitref07_Text.l0 k (nums acc) ((m : Int) - 1) n x z p) ((⟨(acc ++ letters x z m).toArray⟩ : ByteArray), 0)
  | 0, acc, _, _ => by
    refine Ev.step (f := fun _ => some _) (fun k => ?_) (Ev.now _)
    rw [cubitref07_Text.l0]
    rw [if_neg (by omega), str_nums]
    rw [show letters (x : Int) (z : Int) 0 = [] from rfl, List.append_nil]
  | m + 1, acc, hm, hl => by
    have ih := text_loop h m (acc ++ [letter x z m]) (by omega) (by simp; omega)
    have hn := h.hn
    refine Ev.step (fun k => ?_) (show Ev _ _ from by
      rw [List.append_assoc, show [letter (x : Int) (z : Int) m] ++ letters (x : Int) (z : Int) m = letters (x : Int) (z : Int) (m + 1) from rfl] at ih
      exact ih)
    rw [cubitref07_Text.l0]
    have e1 : ((m + 1 : Nat) : Int) - 1 = (m : Int) := by omega
    have e2 : wrap64 ((m : Int) - 1) = (m : Int) - 1 := by unfold wrap64; omega
    rw [e1, if_pos (by omega), at_n h.x64 h.z64, B.bs]
    have h4 : 0 ≤ at4 (x.testBit m) (z.testBit m) ∧ at4 (x.testBit m) (z.testBit m) < 4 := by cases x.testBit m <;> cases z.testBit m <;> decide
    have hlen : (nums acc).length = acc.length := List.length_map _
    rw [if_pos h4.1, if_pos h4.2, if_pos (by rw [hlen]; omega), e2, ← letter_n, nums_app]
    rfl
theorem sign_n {p : Nat} (hp : p ≤ 3) : ∃ s : ByteArray, cubitref07_sign.f p = some s ∧ bytesOf s = nums (signOf p) ∧ s.size ≤ 2 ∧ (signOf (p : Int)).length ≤ 2 := by
  have : p = 0 ∨ p = 1 ∨ p = 2 ∨ p = 3 := by omega
  rcases this with rfl | rfl | rfl | rfl
  · exact ⟨_, rfl, by decide, by decide, by decide⟩
  · exact ⟨_, rfl, by decide, by decide, by decide⟩
  · exact ⟨_, rfl, by decide, by decide, by decide⟩
  · exact ⟨_, rfl, by decide, by decide, by decide⟩
def textOf (n x z p : Nat) : ByteArray := ⟨(signOf p ++ letters x z n).toArray⟩
theorem reftext_ok {n x z p : Nat} (h : PauliOk n x z p) : Ev (fun k => cubitref07_Text.f k n x z p) (textOf n x z p, 0) := by
  have hn := h.hn
  unfold cubitref07_Text.f
  refine Ev.bind (refcheck_good h) ?_
  simp only [if_true]
  obtain ⟨s, hs, hb, hsz, hl⟩ := sign_n h.hp
  refine Ev.congr (fun k => ?_) (text_loop h n (signOf p) (Nat.le_refl _) (by omega))
  rw [hs, B.bs, if_pos (by simp; omega), hb]
  have e : wrap64 ((n : Int) - 1) = (n : Int) - 1 := by unfold wrap64; omega
  rw [e]
  rfl
theorem text_ok {n x z p : Nat} (h : PauliOk n x z p) : pauli_Text.f n x z p = some (textOf n x z p, 0) := by
  have hx := h.x64
  have hz := h.z64
  unfold pauli_Text.f
  rw [if_pos (by omega), check_good h, B.bs, if_pos rfl, Int.toNat_natCast]
  rfl
/-! What is refused. -/
theorem both_bad1 {n p m q : Int} {x z u v : Int} (h : pauli_Check.f n x z p = some 70) : pauli_both.f n x z p m u v q = some 70 := by
  unfold pauli_both.f
  rw [h, B.bs, if_neg (by decide)]
theorem both_bad2 {n p m q : Int} {x z u v : Int} (h0 : pauli_Check.f n x z p = some 0) (h : pauli_Check.f m u v q = some 70) : pauli_both.f n x z p m u v q = some 70 := by
  unfold pauli_both.f
  rw [h0, B.bs, if_pos rfl, h, B.bs, if_neg (by decide)]
theorem both_bad3 {n p m q : Int} {x z u v : Int} (h0 : pauli_Check.f n x z p = some 0) (h : pauli_Check.f m u v q = some 0) (hne : n ≠ m) : pauli_both.f n x z p m u v q = some 2 := by
  unfold pauli_both.f
  rw [h0, B.bs, if_pos rfl, h, B.bs, if_pos rfl, if_neg hne]
theorem mul_bad {n p m q e : Int} {x z u v : Int} (he : e ≠ 0) (h : pauli_both.f n x z p m u v q = some e) : pauli_Mul.f n x z p m u v q = some (0, 0, 0, 0, e) := by
  unfold pauli_Mul.f
  rw [h, B.bs, if_neg he]
theorem commute_bad {n p m q e : Int} {x z u v : Int} (he : e ≠ 0) (h : pauli_both.f n x z p m u v q = some e) : pauli_Commute.f n x z p m u v q = some (false, e) := by
  unfold pauli_Commute.f
  rw [h, B.bs, if_neg he]
theorem refmul_j0_bad {n p m q x z u v : Int} : Ev (fun k => cubitref07_Mul.j0 k true n x z p m u v q) (0, 0, 0, 0, 70) := by
  refine Ev.step (f := fun _ => some _) (fun k => ?_) (Ev.now _)
  rw [cubitref07_Mul.j0]
  rw [if_pos rfl]
theorem refmul_bad1 {n p m q x z u v : Int} (h : Ev (fun k => cubitref07_Check.f k n x z p) 70) : Ev (fun k => cubitref07_Mul.f k n x z p m u v q) (0, 0, 0, 0, 70) := by
  unfold cubitref07_Mul.f
  refine Ev.bind h ?_
  simp only [show ¬ (70 : Int) = 0 by decide, if_false]
  exact refmul_j0_bad
theorem refmul_bad2 {n p m q x z u v : Int} (h0 : Ev (fun k => cubitref07_Check.f k n x z p) 0) (h : Ev (fun k => cubitref07_Check.f k m u v q) 70) : Ev (fun k => cubitref07_Mul.f k n x z p m u v q) (0, 0, 0, 0, 70) := by
  unfold cubitref07_Mul.f
  refine Ev.bind h0 ?_
  simp only [if_true]
  refine Ev.bind h ?_
  rw [show ((70 : Int) != 0) = true from rfl]
  exact refmul_j0_bad
theorem refmul_bad3 {n p m q x z u v : Int} (h0 : Ev (fun k => cubitref07_Check.f k n x z p) 0) (h : Ev (fun k => cubitref07_Check.f k m u v q) 0) (hne : n ≠ m) : Ev (fun k => cubitref07_Mul.f k n x z p m u v q) (0, 0, 0, 0, 2) := by
  unfold cubitref07_Mul.f
  refine Ev.bind h0 ?_
  simp only [if_true]
  refine Ev.bind h ?_
  rw [show ((0 : Int) != 0) = false from rfl]
  refine Ev.step (f := fun _ => some _) (fun k => ?_) (Ev.now _)
  rw [cubitref07_Mul.j0]
  rw [if_neg (by decide), if_neg hne]
theorem refcommute_bad {n p m q x z u v e e' : Int} (he : e ≠ 0) {r : Int × Int × Int × Int × Int} (h : Ev (fun k => cubitref07_Mul.f k n x z p m u v q) (0, 0, 0, 0, e)) (h' : Ev (fun k => cubitref07_Mul.f k m u v q n x z p) r) :
    Ev (fun k => cubitref07_Commute.f k n x z p m u v q) (false, e) := by
  unfold cubitref07_Commute.f
  refine Ev.bind h ?_
  refine Ev.bind h' ?_
  simp only [if_neg he]
  exact Ev.now _
/-- The whole: what both sides answer, once Mul and Commute agree. -/
theorem whole {n p m q x z u v : Int} {c : Int} {M : Int × Int × Int × Int × Int} {C : Bool × Int} {W : Int × Int} {A : Int × Int × Int × Int × Int} {T : ByteArray × Int}
    (hc : pauli_Check.f n x z p = some c) (hc' : Ev (fun k => cubitref07_Check.f k n x z p) c)
    (h1 : pauli_Mul.f n x z p m u v q = some M) (h1' : Ev (fun k => cubitref07_Mul.f k n x z p m u v q) M)
    (h2 : pauli_Commute.f n x z p m u v q = some C) (h2' : Ev (fun k => cubitref07_Commute.f k n x z p m u v q) C)
    (h3 : pauli_Weight.f n x z p = some W) (h3' : Ev (fun k => cubitref07_Weight.f k n x z p) W)
    (h4 : pauli_Adjoint.f n x z p = some A) (h4' : Ev (fun k => cubitref07_Adjoint.f k n x z p) A)
    (h5 : pauli_Text.f n x z p = some T) (h5' : Ev (fun k => cubitref07_Text.f k n x z p) T) :
    ∃ k, cubitlaw07_PauliProducts.f k n x z p m u v q = some true := by
  refine Ev.rounds ?_
  unfold cubitlaw07_PauliProducts.f
  refine Ev.bind (Ev.of cubitlaw07_awake.mono (k := 1) awake) ?_
  simp only [if_true, hc, B.bs]
  refine Ev.bind hc' ?_
  rw [bne_self_eq_false]
  refine Ev.step (fun k => by simp only [cubitlaw07_PauliProducts.j0, Bool.false_eq_true, if_false, h1, h2, h3, h4, h5, B.bs]; rfl) ?_
  refine Ev.bind h1' ?_
  refine Ev.bind h2' ?_
  refine Ev.bind h3' ?_
  refine Ev.bind h4' ?_
  refine Ev.bind h5' ?_
  simp only [beq_self_eq_true, Bool.and_self, if_true]
  exact Ev.now _
theorem PauliProducts : cubitlaw07_PauliProducts.Pure := by
  intro n x z p m u v q wn wx wz wp wm wu wv wq
  obtain ⟨x, hx, rfl⟩ := word wx
  obtain ⟨z, hz, rfl⟩ := word wz
  obtain ⟨u, hu, rfl⟩ := word wu
  obtain ⟨v, hv, rfl⟩ := word wv
  clear wn wx wz wp wm wu wv wq
  have refd : ∀ {e : Int}, (∃ m' q' : Nat, n = m' ∧ p = q' ∧ PauliOk m' x z q') → e ≠ 0 → pauli_both.f n x z p m u v q = some e → Ev (fun k => cubitref07_Mul.f k n x z p m u v q) (0, 0, 0, 0, e) → (∃ r, Ev (fun k => cubitref07_Mul.f k m u v q n x z p) r) → ∃ k, cubitlaw07_PauliProducts.f k n x z p m u v q = some true := by
    rintro e ⟨n, p, rfl, rfl, ha⟩ he hb hr ⟨r, hr'⟩
    exact whole (check_good ha) (refcheck_good ha) (mul_bad he hb) hr (commute_bad he hb) (refcommute_bad (e' := 0) he hr hr') (weight_ok ha) (refweight_ok ha) (adjoint_ok ha) (refadjoint_ok ha) (text_ok ha) (reftext_ok ha)
  by_cases hA : ∃ m' q' : Nat, n = m' ∧ p = q' ∧ PauliOk m' x z q'
  · obtain ⟨n', p', e1, e2, ha⟩ := id hA
    by_cases hB : ∃ m' q' : Nat, m = m' ∧ q = q' ∧ PauliOk m' u v q'
    · obtain ⟨m', q', e3, e4, hb⟩ := hB
      subst e1; subst e2; subst e3; subst e4
      by_cases hnm : n' = m'
      · subst hnm
        exact whole (check_good ha) (refcheck_good ha) (mul_ok ha hb) (refmul_ok ha hb) (commute_ok ha hb) (refcommute_ok ha hb) (weight_ok ha) (refweight_ok ha) (adjoint_ok ha) (refadjoint_ok ha) (text_ok ha) (reftext_ok ha)
      · have hne : (n' : Int) ≠ (m' : Int) := by omega
        exact refd hA (by decide) (both_bad3 (check_good ha) (check_good hb) hne) (refmul_bad3 (refcheck_good ha) (refcheck_good hb) hne) ⟨_, refmul_bad3 (refcheck_good hb) (refcheck_good ha) (Ne.symm hne)⟩
    · subst e1; subst e2
      have hb := check_bad hu hv hB
      exact refd hA (by decide) (both_bad2 (check_good ha) hb.1) (refmul_bad2 (refcheck_good ha) hb.2) ⟨_, refmul_bad1 hb.2⟩
  · have hb := check_bad hx hz hA
    have hbo := both_bad1 (m := m) (u := u) (v := v) (q := q) hb.1
    have hr' : ∃ r, Ev (fun k => cubitref07_Mul.f k m u v q n x z p) r := by
      by_cases hB : ∃ m' q' : Nat, m = m' ∧ q = q' ∧ PauliOk m' u v q'
      · obtain ⟨m', q', e3, e4, hb2⟩ := hB
        subst e3; subst e4
        exact ⟨_, refmul_bad2 (refcheck_good hb2) hb.2⟩
      · exact ⟨_, refmul_bad1 (check_bad hu hv hB).2⟩
    obtain ⟨r, hr'⟩ := hr'
    have w1 : pauli_Weight.f n x z p = some (0, 70) := by unfold pauli_Weight.f; rw [hb.1, B.bs, if_neg (by decide)]
    have w2 : Ev (fun k => cubitref07_Weight.f k n x z p) (0, 70) := by
      unfold cubitref07_Weight.f
      refine Ev.bind hb.2 ?_
      simp only [show ¬ (70 : Int) = 0 by decide, if_false]
      exact Ev.now _
    have a1 : pauli_Adjoint.f n x z p = some (0, 0, 0, 0, 70) := by unfold pauli_Adjoint.f; rw [hb.1, B.bs, if_neg (by decide)]
    have a2 : Ev (fun k => cubitref07_Adjoint.f k n x z p) (0, 0, 0, 0, 70) := by
      unfold cubitref07_Adjoint.f
      refine Ev.bind hb.2 ?_
      simp only [show ¬ (70 : Int) = 0 by decide, if_false]
      exact Ev.now _
    have t1 : pauli_Text.f n x z p = some ((⟨#[]⟩ : ByteArray), 70) := by
      unfold pauli_Text.f
      rw [if_pos (by omega), hb.1, B.bs, if_neg (by decide)]
    have t2 : Ev (fun k => cubitref07_Text.f k n x z p) ((⟨#[]⟩ : ByteArray), 70) := by
      unfold cubitref07_Text.f
      refine Ev.bind hb.2 ?_
      simp only [show ¬ (70 : Int) = 0 by decide, if_false]
      exact Ev.now _
    exact whole hb.1 hb.2 (mul_bad (by decide) hbo) (refmul_bad1 hb.2) (commute_bad (by decide) hbo) (refcommute_bad (e' := 0) (by decide) (refmul_bad1 hb.2) hr') w1 w2 a1 a2 t1 t2
end Go.Proofs.Ytechbhjdgfcgoaa.Pure
