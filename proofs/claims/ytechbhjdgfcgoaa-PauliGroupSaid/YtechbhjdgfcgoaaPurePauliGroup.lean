/- PauliGroup: products hang on no bracketing, the identity changes nothing, the adjoint takes back, two strings commute or their products differ by -1; for any three strings made by hand. -/
import Derived.Test.YtechbhjdgfcgoaaPauP
import Derived.Test.YtechbhjdgfcgoaaPAx11
namespace Go.Proofs.Ytechbhjdgfcgoaa.Pure
open Go Go.RowKit Go.Proofs.Ytechbhjdgfcgoaa.PA Go.Proofs.Ytechbhjdgfcgoaa.B Go.Proofs.Ytechbhjdgfcgoaa.Q Go.Proofs.YtechbhjdgfcgoaaW.PrintWords Go.Proofs.YtechbhjdgfcgoaaW.PrintLast Go.Proofs.YtechbhjdgfcgoaaW.PrintMore
set_option linter.unusedVariables false
set_option linter.unusedSimpArgs false
theorem phb_assoc : ∀ ax az bx bz cx cz : Bool, (phb ax az bx bz + phb (ax ^^ bx) (az ^^ bz) cx cz) % 4 = (phb bx bz cx cz + phb ax az (bx ^^ cx) (bz ^^ cz)) % 4 := by decide
theorem phb_one : ∀ x z : Bool, phb false false x z = 0 ∧ phb x z false false = 0 ∧ phb x z x z = 0 := by decide
theorem phs_assoc (ax az bx bz cx cz : Nat) : ∀ n, (phs ax az bx bz n + phs (ax ^^^ bx) (az ^^^ bz) cx cz n) % 4 = (phs bx bz cx cz n + phs ax az (bx ^^^ cx) (bz ^^^ cz) n) % 4
  | 0 => rfl
  | n + 1 => by
    have h := phs_assoc ax az bx bz cx cz n
    have hb := phb_assoc (ax.testBit n) (az.testBit n) (bx.testBit n) (bz.testBit n) (cx.testBit n) (cz.testBit n)
    simp only [phs, Nat.testBit_xor]
    omega
theorem phs_one (x z : Nat) : ∀ n, phs 0 0 x z n = 0 ∧ phs x z 0 0 n = 0 ∧ phs x z x z n = 0
  | 0 => ⟨rfl, rfl, rfl⟩
  | n + 1 => by
    have h := phs_one x z n
    have hb := phb_one (x.testBit n) (z.testBit n)
    simp only [phs, Nat.zero_testBit]
    omega
theorem assoc_ph {ax az p bx bz q cx cz r n : Nat} : mulPh (ax ^^^ bx) (az ^^^ bz) (mulPh ax az p bx bz q n) cx cz r n = mulPh ax az p (bx ^^^ cx) (bz ^^^ cz) (mulPh bx bz q cx cz r n) n := by
  have h := phs_assoc ax az bx bz cx cz n
  unfold mulPh
  omega
theorem swap_ph {ax az p bx bz q n : Nat} : mulPh ax az p bx bz q n = if pcs n (ax &&& bz) % 2 = pcs n (az &&& bx) % 2 then mulPh bx bz q ax az p n else (mulPh bx bz q ax az p n + 2) % 4 := by
  have h1 := phs_mod ax az bx bz n
  have h2 := phs_mod bx bz ax az n
  rw [Nat.xor_comm bx ax, Nat.xor_comm bz az, Nat.and_comm bz ax] at h2
  unfold mulPh
  split <;> omega
theorem early {k : Nat} {n p m q l r : Int} {x z u v s t : Nat} (hx : x < 2 ^ 64) (hz : z < 2 ^ 64) (hu : u < 2 ^ 64) (hv : v < 2 ^ 64) (hs : s < 2 ^ 64) (ht : t < 2 ^ 64) (ha : cubitlaw07_awake.f k = some true)
    (h : ¬ ∃ n' p' q' r' : Nat, n = n' ∧ m = n' ∧ l = n' ∧ p = p' ∧ q = q' ∧ r = r' ∧ PauliOk n' x z p' ∧ PauliOk n' u v q' ∧ PauliOk n' s t r') :
    cubitlaw07_PauliGroup.f k n x z p m u v q l s t r = some true := by
  obtain ⟨e1, c1, g1⟩ := @check_some n p x z hx hz
  obtain ⟨e2, c2, g2⟩ := @check_some m q u v hu hv
  obtain ⟨e3, c3, g3⟩ := @check_some l r s t hs ht
  unfold cubitlaw07_PauliGroup.f
  rw [ha, Q.bs, if_pos rfl, c1, Q.bs]
  by_cases h1 : e1 = 0
  · rw [if_pos h1, c2, Q.bs]
    by_cases h2 : e2 = 0
    · rw [if_pos h2, c3, Q.bs]
      by_cases h3 : e3 = 0
      · rw [if_pos h3]
        by_cases h4 : n = m
        · rw [if_pos h4]
          by_cases h5 : n = l
          · exfalso
            obtain ⟨n1, p1, rfl, rfl, o1⟩ := g1 h1
            obtain ⟨n2, p2, rfl, rfl, o2⟩ := g2 h2
            obtain ⟨n3, p3, rfl, rfl, o3⟩ := g3 h3
            have e2 : n2 = n1 := by omega
            have e3 : n3 = n1 := by omega
            subst e2; subst e3
            exact h ⟨_, _, _, _, rfl, rfl, rfl, rfl, rfl, rfl, o1, o2, o3⟩
          · rw [if_neg h5]
        · rw [if_neg h4]
      · rw [if_neg h3]
    · rw [if_neg h2]
  · rw [if_neg h1]
theorem PauliGroup : cubitlaw07_PauliGroup.Pure := by
  intro n x z p m u v q l s t r wn wx wz wp wm wu wv wq wl ws wt wr
  obtain ⟨x, hx, rfl⟩ := word wx
  obtain ⟨z, hz, rfl⟩ := word wz
  obtain ⟨u, hu, rfl⟩ := word wu
  obtain ⟨v, hv, rfl⟩ := word wv
  obtain ⟨s, hs, rfl⟩ := word ws
  obtain ⟨t, ht, rfl⟩ := word wt
  clear wn wx wz wp wm wu wv wq wl ws wt wr
  refine ⟨1, ?_⟩
  by_cases h : ∃ n' p' q' r' : Nat, n = n' ∧ m = n' ∧ l = n' ∧ p = p' ∧ q = q' ∧ r = r' ∧ PauliOk n' x z p' ∧ PauliOk n' u v q' ∧ PauliOk n' s t r'
  · obtain ⟨n', p', q', r', rfl, rfl, rfl, rfl, rfl, rfl, oa, ob, oc⟩ := h
    clear hx hz hu hv hs ht
    have o1 := eye_good oa.hn
    have od := adjoint_still oa
    unfold cubitlaw07_PauliGroup.f
    rw [Q.awake, Q.bs, if_pos rfl, check_good oa, Q.bs, if_pos rfl, check_good ob, Q.bs, if_pos rfl, check_good oc, Q.bs, if_pos rfl, if_pos rfl, if_pos rfl]
    rw [mul_ok oa ob, Q.bs, mul_ok ob oa, Q.bs, mul_ok ob oc, Q.bs]
    simp only []
    rw [mul_ok (mul_still oa ob) oc, Q.bs, mul_ok oa (mul_still ob oc), Q.bs, eye_ok oa.hn, Q.bs]
    simp only [if_true]
    rw [assoc_ph, Nat.xor_assoc x u s, Nat.xor_assoc z v t]
    simp only [beq_self_eq_true, Bool.not_true, Bool.or_self, Bool.false_eq_true, if_false]
    rw [adjoint_ok oa, Q.bs, mul_ok oa od, Q.bs, mul_ok od oa, Q.bs]
    rw [show pauli_Mul.f (n' : Int) 0 0 0 (n' : Int) (x : Int) (z : Int) (p' : Int) = _ from mul_ok o1 oa, Q.bs, show pauli_Mul.f (n' : Int) (x : Int) (z : Int) (p' : Int) (n' : Int) 0 0 0 = _ from mul_ok oa o1, Q.bs]
    have hp := oa.hp
    have hs1 := phs_one x z n'
    have e1 : mulPh x z p' x z ((4 - p') % 4) n' = 0 := by unfold mulPh; omega
    have e2 : mulPh x z ((4 - p') % 4) x z p' n' = 0 := by unfold mulPh; omega
    have e3 : mulPh 0 0 0 x z p' n' = p' := by unfold mulPh; omega
    have e4 : mulPh x z p' 0 0 0 n' = p' := by unfold mulPh; omega
    rw [e1, e2, e3, e4, Nat.xor_self, Nat.xor_self, Nat.zero_xor, Nat.zero_xor, Nat.xor_zero, Nat.xor_zero]
    simp only [if_true, beq_self_eq_true, Bool.not_true, Bool.or_self, Bool.false_eq_true, if_false]
    rw [commute_ok oa ob, Q.bs]
    have hsw := @swap_ph x z p' u v q' n'
    have hb : mulPh u v q' x z p' n' ≤ 3 := (mul_still ob oa).hp
    rw [Nat.xor_comm u x, Nat.xor_comm v z]
    by_cases hc : pcs n' (x &&& v) % 2 = pcs n' (z &&& u) % 2
    · rw [if_pos hc] at hsw
      simp only [decide_eq_true hc, if_true, hsw, beq_self_eq_true, Bool.and_self]
      rfl
    · rw [if_neg hc] at hsw
      have e5 : Int.tmod (wrap64 (((mulPh u v q' x z p' n' : Nat) : Int) + 2)) 4 = (((mulPh u v q' x z p' n' + 2) % 4 : Nat) : Int) := by
        rw [w64 (by omega), Int.tmod_eq_emod_of_nonneg (by omega)]
        rfl
      simp only [decide_eq_false hc, Bool.false_eq_true, if_false, if_true, hsw, e5, beq_self_eq_true, Bool.and_self]
      rfl
  · exact early hx hz hu hv hs ht Q.awake h
end Go.Proofs.Ytechbhjdgfcgoaa.Pure
