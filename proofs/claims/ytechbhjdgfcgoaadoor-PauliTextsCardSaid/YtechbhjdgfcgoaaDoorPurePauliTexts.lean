/- PauliTexts: a string's text is read as the string; a text with a sign is shown again; weights of products; for any two strings made by hand and every text. -/
import Derived.Test.YtechbhjdgfcgoaaDoorPauParse
import Derived.Test.YtechbhjdgfcgoaaDoorPauPD
import Derived.Test.YtechbhjdgfcgoaaDoorGTextD
import Derived.Test.YtechbhjdgfcgoaaDoorPAx10
namespace Go.Proofs.YtechbhjdgfcgoaaDoor.Pure
open Go Go.RowKit Go.Proofs.YtechbhjdgfcgoaaDoor.PA Go.Proofs.YtechbhjdgfcgoaaDoor.B Go.Proofs.YtechbhjdgfcgoaaDoor.Q Go.Proofs.YtechbhjdgfcgoaaDoorW.PrintWords Go.Proofs.YtechbhjdgfcgoaaDoorW.PrintLast Go.Proofs.YtechbhjdgfcgoaaDoorW.PrintMore
set_option linter.unusedVariables false
set_option linter.unusedSimpArgs false
/-! The letters and the bits. -/
def bX (c : UInt8) : Nat := if c = 88 ∨ c = 89 then 1 else 0
def bZ (c : UInt8) : Nat := if c = 90 ∨ c = 89 then 1 else 0
theorem bits_val (a b : UInt8) : ∀ (l : List UInt8) (v : Nat), bitsOf a b l v = v * 2 ^ l.length + bitsOf a b l 0
  | [], v => by simp [bitsOf]
  | c :: l, v => by
    have h1 := bits_val a b l (2 * v + if c = a ∨ c = b then 1 else 0)
    have h2 := bits_val a b l (2 * 0 + if c = a ∨ c = b then 1 else 0)
    show bitsOf a b l (2 * v + _) = v * 2 ^ (l.length + 1) + bitsOf a b l (2 * 0 + _)
    rw [h1, h2, Nat.pow_succ, Nat.add_mul, Nat.add_mul, Nat.mul_zero, Nat.zero_mul, Nat.zero_add, ← Nat.add_assoc]
    congr 2
    ac_rfl
theorem bits_lt (a b : UInt8) (l : List UInt8) : bitsOf a b l 0 < 2 ^ l.length := by
  have := bitsOf_lt a b l 0 0 (by decide)
  rwa [Nat.zero_add] at this
theorem bits_top (a b : UInt8) (l : List UInt8) (v : Nat) : bitsOf a b l v / 2 ^ l.length = v := by
  rw [bits_val, Nat.mul_comm, Nat.mul_add_div (Nat.two_pow_pos _), Nat.div_eq_of_lt (bits_lt a b l), Nat.add_zero]
theorem div_cast (x j : Nat) : ((x : Int) / 2 ^ j % 2) = ((x / 2 ^ j % 2 : Nat) : Int) := by push_cast; rfl
theorem letter_of {c : UInt8} (h : isLet c = true) {x z j : Nat} (hx : x / 2 ^ j % 2 = bX c) (hz : z / 2 ^ j % 2 = bZ c) : letter (x : Int) (z : Int) j = c := by
  unfold letter
  rw [div_cast, div_cast, hx, hz]
  unfold isLet at h
  simp only [List.contains_cons, List.contains_nil, Bool.or_false, Bool.or_eq_true, beq_iff_eq] at h
  rcases h with rfl | rfl | rfl | rfl <;> decide
theorem letters_bits : ∀ (l : List UInt8) (v w : Nat), l.all isLet = true → letters ((bitsOf 88 89 l v : Nat) : Int) ((bitsOf 90 89 l w : Nat) : Int) l.length = l
  | [], v, w, _ => rfl
  | c :: l, v, w, h => by
    rw [List.all_cons, Bool.and_eq_true] at h
    have ih := letters_bits l (2 * v + bX c) (2 * w + bZ c) h.2
    show letter ((bitsOf 88 89 l (2 * v + bX c) : Nat) : Int) ((bitsOf 90 89 l (2 * w + bZ c) : Nat) : Int) l.length :: letters ((bitsOf 88 89 l (2 * v + bX c) : Nat) : Int) ((bitsOf 90 89 l (2 * w + bZ c) : Nat) : Int) l.length = c :: l
    rw [ih, letter_of h.1]
    · rw [bits_top]
      have : bX c ≤ 1 := by unfold bX; split <;> omega
      omega
    · rw [bits_top]
      have : bZ c ≤ 1 := by unfold bZ; split <;> omega
      omega
/-- The other way: the bits of the letters. -/
theorem letter_let (x z : Int) (j : Nat) : isLet (letter x z j) = true := by
  unfold letter
  split <;> split <;> decide
theorem letter_bits (x z j : Nat) : bX (letter (x : Int) (z : Int) j) = x / 2 ^ j % 2 ∧ bZ (letter (x : Int) (z : Int) j) = z / 2 ^ j % 2 := by
  unfold letter
  rw [div_cast, div_cast]
  have hx : x / 2 ^ j % 2 = 0 ∨ x / 2 ^ j % 2 = 1 := by omega
  have hz : z / 2 ^ j % 2 = 0 ∨ z / 2 ^ j % 2 = 1 := by omega
  rcases hx with hx | hx <;> rcases hz with hz | hz <;> rw [hx, hz] <;> decide
theorem letters_let (x z : Int) : ∀ m, (letters x z m).all isLet = true ∧ (letters x z m).length = m
  | 0 => ⟨rfl, rfl⟩
  | m + 1 => by
    obtain ⟨h1, h2⟩ := letters_let x z m
    constructor
    · show (isLet (letter x z m) && (letters x z m).all isLet) = true
      rw [letter_let, h1]; rfl
    · show (letters x z m).length + 1 = _
      rw [h2]
theorem mod_succ (x j : Nat) : x % 2 ^ (j + 1) = x / 2 ^ j % 2 * 2 ^ j + x % 2 ^ j := by
  rw [Nat.pow_succ, Nat.mod_mul, Nat.add_comm, Nat.mul_comm]
theorem bits_letters (x z : Nat) : ∀ (m v w : Nat), bitsOf 88 89 (letters (x : Int) (z : Int) m) v = v * 2 ^ m + x % 2 ^ m ∧ bitsOf 90 89 (letters (x : Int) (z : Int) m) w = w * 2 ^ m + z % 2 ^ m
  | 0, v, w => by
    refine ⟨?_, ?_⟩
    · show v = v * 1 + x % 1
      omega
    · show w = w * 1 + z % 1
      omega
  | m + 1, v, w => by
    obtain ⟨l1, l2⟩ := letter_bits x z m
    obtain ⟨h1, h2⟩ := bits_letters x z m (2 * v + bX (letter (x : Int) (z : Int) m)) (2 * w + bZ (letter (x : Int) (z : Int) m))
    have hx := mod_succ x m
    have hz := mod_succ z m
    have p2 := Nat.pow_succ 2 m
    refine ⟨?_, ?_⟩
    · show bitsOf 88 89 (letters (x : Int) (z : Int) m) (2 * v + bX (letter (x : Int) (z : Int) m)) = _
      rw [h1, l1, hx, p2, Nat.add_mul, Nat.add_assoc]
      congr 1
      ac_rfl
    · show bitsOf 90 89 (letters (x : Int) (z : Int) m) (2 * w + bZ (letter (x : Int) (z : Int) m)) = _
      rw [h2, l2, hz, p2, Nat.add_mul, Nat.add_assoc]
      congr 1
      ac_rfl
/-! Texts. -/
def textOf (n x z p : Nat) : ByteArray := ⟨(signOf p ++ letters x z n).toArray⟩
theorem text_ok {n x z p : Nat} (h : PauliOk n x z p) : pauli_Text.f n x z p = some (textOf n x z p, 0) := by
  have hx := h.x64
  have hz := h.z64
  unfold pauli_Text.f
  rw [if_pos (by omega), check_good h, Q.bs, if_pos rfl, Int.toNat_natCast]
  rfl
theorem no_pre {l : List UInt8} (h : l.all isLet = true) {c : UInt8} (hc : isLet c = false) : Lib.hasPrefix l [c] = false ∧ Lib.trimPrefix l [c] = l := by
  cases l with
  | nil => exact ⟨rfl, rfl⟩
  | cons d l =>
    rw [List.all_cons, Bool.and_eq_true] at h
    have hne : (c == d) = false := by
      cases he : c == d with
      | false => rfl
      | true => rw [← beq_iff_eq.mp he] at h; rw [hc] at h; exact absurd h.1 (by decide)
    exact ⟨by rw [pre_cons, hne], trim_no hne⟩
theorem parse_text {n x z p : Nat} (h : PauliOk n x z p) : parseOf (textOf n x z p).data.toList = ((n : Int), (x : Int), (z : Int), (p : Int), 0) := by
  obtain ⟨hl, hlen⟩ := letters_let (x : Int) (z : Int) n
  obtain ⟨b1, b2⟩ := bits_letters x z n 0 0
  have hx : x % 2 ^ n = x := Nat.mod_eq_of_lt h.hx
  have hz : z % 2 ^ n = z := Nat.mod_eq_of_lt h.hz
  rw [Nat.zero_mul, Nat.zero_add, hx] at b1
  rw [Nat.zero_mul, Nat.zero_add, hz] at b2
  obtain ⟨p1, t1⟩ := no_pre hl (c := 105) (by decide)
  obtain ⟨p2, t2⟩ := no_pre hl (c := 45) (by decide)
  have hf : ∀ q : Int, fin (letters (x : Int) (z : Int) n) q = ((n : Int), (x : Int), (z : Int), q, 0) := by
    intro q
    unfold fin
    rw [if_pos hl, hlen, if_pos h.hn, b1, b2]
  rw [parse_fin]
  show fin (restOf (signOf (p : Int) ++ letters (x : Int) (z : Int) n)) _ = _
  have hp := h.hp
  have : p = 0 ∨ p = 1 ∨ p = 2 ∨ p = 3 := by omega
  rcases this with rfl | rfl | rfl | rfl
  · have e : (textOf n x z 0).data.toList = 43 :: letters (x : Int) (z : Int) n := rfl
    have r1 : r1Of (43 :: letters (x : Int) (z : Int) n) = letters (x : Int) (z : Int) n := by
      unfold r1Of
      rw [pre_cons, show ((45 : UInt8) == 43) = false from rfl, if_neg (by decide), trim_yes rfl]
    have r2 : restOf (43 :: letters (x : Int) (z : Int) n) = letters (x : Int) (z : Int) n := by
      unfold restOf
      rw [r1, t1]
    rw [e, show signOf ((0 : Nat) : Int) ++ letters (x : Int) (z : Int) n = 43 :: letters (x : Int) (z : Int) n from rfl, r2, r1, pre_cons, p1, hf]
    rfl
  · have e : (textOf n x z 1).data.toList = 43 :: 105 :: letters (x : Int) (z : Int) n := rfl
    have r1 : r1Of (43 :: 105 :: letters (x : Int) (z : Int) n) = 105 :: letters (x : Int) (z : Int) n := by
      unfold r1Of
      rw [pre_cons, show ((45 : UInt8) == 43) = false from rfl, if_neg (by decide), trim_yes rfl]
    have r2 : restOf (43 :: 105 :: letters (x : Int) (z : Int) n) = letters (x : Int) (z : Int) n := by
      unfold restOf
      rw [r1, trim_yes rfl]
    rw [e, show signOf ((1 : Nat) : Int) ++ letters (x : Int) (z : Int) n = 43 :: 105 :: letters (x : Int) (z : Int) n from rfl, r2, r1, pre_cons, pre_cons, hf]
    rfl
  · have e : (textOf n x z 2).data.toList = 45 :: letters (x : Int) (z : Int) n := rfl
    have r1 : r1Of (45 :: letters (x : Int) (z : Int) n) = letters (x : Int) (z : Int) n := by
      unfold r1Of
      rw [pre_cons, show ((45 : UInt8) == 45) = true from rfl, if_pos rfl, trim_yes rfl]
    have r2 : restOf (45 :: letters (x : Int) (z : Int) n) = letters (x : Int) (z : Int) n := by
      unfold restOf
      rw [r1, t1]
    rw [e, show signOf ((2 : Nat) : Int) ++ letters (x : Int) (z : Int) n = 45 :: letters (x : Int) (z : Int) n from rfl, r2, r1, pre_cons, p1, hf]
    rfl
  · have e : (textOf n x z 3).data.toList = 45 :: 105 :: letters (x : Int) (z : Int) n := rfl
    have r1 : r1Of (45 :: 105 :: letters (x : Int) (z : Int) n) = 105 :: letters (x : Int) (z : Int) n := by
      unfold r1Of
      rw [pre_cons, show ((45 : UInt8) == 45) = true from rfl, if_pos rfl, trim_yes rfl]
    have r2 : restOf (45 :: 105 :: letters (x : Int) (z : Int) n) = letters (x : Int) (z : Int) n := by
      unfold restOf
      rw [r1, trim_yes rfl]
    rw [e, show signOf ((3 : Nat) : Int) ++ letters (x : Int) (z : Int) n = 45 :: 105 :: letters (x : Int) (z : Int) n from rfl, r2, r1, pre_cons, pre_cons, hf]
    rfl
/-- What Parse takes: its string, and its text shown again. -/
theorem parse_cases (l : List UInt8) : (∃ n x z p : Nat, parseOf l = ((n : Int), (x : Int), (z : Int), (p : Int), 0) ∧ PauliOk n x z p ∧ 1 ≤ (textOf n x z p).size ∧ (Lib.hasPrefix l [43] = true ∨ Lib.hasPrefix l [45] = true → (textOf n x z p).data.toList = l)) ∨ (∃ e : Int, e ≠ 0 ∧ parseOf l = (0, 0, 0, 0, e)) := by
  rw [parse_fin]
  unfold fin
  by_cases ha : (restOf l).all isLet = true
  · rw [if_pos ha]
    by_cases h64 : (restOf l).length ≤ 64
    · rw [if_pos h64]
      left
      have hlt := letters_bits (restOf l) 0 0 ha
      refine ⟨(restOf l).length, bitsOf 88 89 (restOf l) 0, bitsOf 90 89 (restOf l) 0, (if Lib.hasPrefix l [45] = true then 2 else 0) + (if Lib.hasPrefix (r1Of l) [105] = true then 1 else 0), ?_, ⟨h64, bits_lt _ _ _, bits_lt _ _ _, by split <;> split <;> omega⟩, ?_, ?_⟩
      · cases Lib.hasPrefix l [45] <;> cases Lib.hasPrefix (r1Of l) [105] <;> rfl
      · have : 1 ≤ (signOf (((if Lib.hasPrefix l [45] = true then 2 else 0) + (if Lib.hasPrefix (r1Of l) [105] = true then 1 else 0) : Nat) : Int)).length := by
          cases Lib.hasPrefix l [45] <;> cases Lib.hasPrefix (r1Of l) [105] <;> decide
        show 1 ≤ (signOf _ ++ letters _ _ _).length
        rw [List.length_append]
        exact Nat.le_trans this (Nat.le_add_right _ _)
      · intro hs
        show signOf _ ++ letters _ _ _ = l
        rw [hlt]
        have hr : restOf l = Lib.trimPrefix (r1Of l) [105] := rfl
        cases l with
        | nil => rcases hs with h | h <;> exact absurd h (by decide)
        | cons d l =>
          have fin2 : ∀ r : List UInt8, r1Of (d :: l) = r → (if Lib.hasPrefix r [105] = true then [105] else []) ++ Lib.trimPrefix r [105] = r := by
            intro r _
            cases r with
            | nil => rfl
            | cons c r =>
              rw [pre_cons]
              cases h : (105 : UInt8) == c with
              | true => rw [trim_yes h, if_pos rfl, beq_iff_eq.mp h]; rfl
              | false => rw [trim_no h, if_neg (by decide)]; rfl
          rw [hr, pre_cons]
          rw [pre_cons, pre_cons] at hs
          cases h45 : (45 : UInt8) == d with
          | true =>
            have r1 : r1Of (d :: l) = l := by
              unfold r1Of
              rw [pre_cons, h45, if_pos rfl, trim_yes h45]
            have f2 := fin2 _ r1
            rw [r1]
            rw [if_pos rfl]
            have hd : d = 45 := (beq_iff_eq.mp h45).symm
            subst hd
            cases hi : Lib.hasPrefix l [105] with
            | true =>
              rw [hi, if_pos rfl] at f2
              rw [if_pos rfl]
              show 45 :: 105 :: Lib.trimPrefix l [105] = 45 :: l
              exact congrArg (List.cons 45) f2
            | false =>
              rw [hi, if_neg (by decide)] at f2
              rw [if_neg (by decide)]
              show 45 :: Lib.trimPrefix l [105] = 45 :: l
              exact congrArg (List.cons 45) f2
          | false =>
            have h43 : ((43 : UInt8) == d) = true := by
              rcases hs with h | h
              · exact h
              · rw [h45] at h; cases h
            have r1 : r1Of (d :: l) = l := by
              unfold r1Of
              rw [pre_cons, h45, if_neg (by decide), trim_yes h43]
            have f2 := fin2 _ r1
            rw [r1]
            rw [if_neg (by decide)]
            have hd : d = 43 := (beq_iff_eq.mp h43).symm
            subst hd
            cases hi : Lib.hasPrefix l [105] with
            | true =>
              rw [hi, if_pos rfl] at f2
              rw [if_pos rfl]
              show 43 :: 105 :: Lib.trimPrefix l [105] = 43 :: l
              exact congrArg (List.cons 43) f2
            | false =>
              rw [hi, if_neg (by decide)] at f2
              rw [if_neg (by decide)]
              show 43 :: Lib.trimPrefix l [105] = 43 :: l
              exact congrArg (List.cons 43) f2
    · rw [if_neg h64]
      exact .inr ⟨1, by decide, rfl⟩
  · rw [if_neg ha]
    exact .inr ⟨70, by decide, rfl⟩
/-! Weights. -/
theorem wt_tri : ∀ ax az bx bz : Bool, wt ((ax ^^ bx) || (az ^^ bz)) ≤ wt (ax || az) + wt (bx || bz) ∧ wt (ax || az) ≤ wt ((ax ^^ bx) || (az ^^ bz)) + wt (bx || bz) := by decide
theorem pcs_tri (ax az bx bz : Nat) : ∀ n, pcs n ((ax ^^^ bx) ||| (az ^^^ bz)) ≤ pcs n (ax ||| az) + pcs n (bx ||| bz) ∧ pcs n (ax ||| az) ≤ pcs n ((ax ^^^ bx) ||| (az ^^^ bz)) + pcs n (bx ||| bz)
  | 0 => ⟨Nat.le_refl _, Nat.le_refl _⟩
  | n + 1 => by
    have h := pcs_tri ax az bx bz n
    have hb := wt_tri (ax.testBit n) (az.testBit n) (bx.testBit n) (bz.testBit n)
    simp only [pcs_succ, Nat.testBit_or, Nat.testBit_xor]
    omega
theorem j2_ev {n m ax az p bx bz q : Nat} (ha : PauliOk n ax az p) (hb : PauliOk m bx bz q) : Ev (fun k => cubitlaw07_PauliTexts.j2 k false n ax az p m bx bz q) true := by
  refine Ev.step (f := fun _ => some true) (fun k => ?_) (Ev.now _)
  rw [cubitlaw07_PauliTexts.j2, if_neg (by decide)]
  by_cases h : n = m
  · subst h
    have h1 := pcs_tri ax az bx bz n
    have h2 := pcs_le n (ax ||| az)
    have h3 := pcs_le n (bx ||| bz)
    have hn := ha.hn
    rw [if_pos rfl, mul_ok ha hb, Q.bs, weight_ok ha, Q.bs, weight_ok hb, Q.bs]
    simp only []
    rw [weight_ok (mul_still ha hb), Q.bs]
    simp only [if_true]
    generalize pcs n ((ax ^^^ bx) ||| (az ^^^ bz)) = c at *
    generalize pcs n (ax ||| az) = d at *
    generalize pcs n (bx ||| bz) = e at *
    clear ha hb
    rw [w64 (a := (d : Int) + (e : Int)) (by omega), w64 (a := (d : Int) - (e : Int)) (by omega), if_pos (by omega), if_pos (by omega), decide_eq_true (by omega)]
  · rw [if_neg (by omega)]
    have hm : pauli_Mul.f n ax az p m bx bz q = some (0, 0, 0, 0, 2) := by
      unfold pauli_Mul.f pauli_both.f
      rw [check_good ha, Q.bs, if_pos rfl, check_good hb, Q.bs, if_pos rfl, if_neg (by omega), Q.bs, if_neg (by decide)]
    rw [hm, Q.bs]
    rfl
theorem j0_ev {n p m q : Int} {x z u v : Nat} (hx : x < 2 ^ 64) (hz : z < 2 ^ 64) (hu : u < 2 ^ 64) (hv : v < 2 ^ 64) : Ev (fun k => cubitlaw07_PauliTexts.j0 k n x z p m u v q) true := by
  obtain ⟨e1, c1, g1⟩ := @check_some n p x z hx hz
  obtain ⟨e2, c2, g2⟩ := @check_some m q u v hu hv
  have yes : Ev (fun k => cubitlaw07_PauliTexts.j1 k true n x z p m u v q) true := by
    refine Ev.step (f := fun _ => some true) (fun k => ?_) (Ev.now _)
    rw [cubitlaw07_PauliTexts.j1, if_pos rfl]
  by_cases h1 : e1 = 0
  · by_cases h2 : e2 = 0
    · obtain ⟨n', p', rfl, rfl, o1⟩ := g1 h1
      obtain ⟨m', q', rfl, rfl, o2⟩ := g2 h2
      refine Ev.step (f := fun k => cubitlaw07_PauliTexts.j1 k false n' x z p' m' u v q') (fun k => ?_) (Ev.step (f := fun k => cubitlaw07_PauliTexts.j2 k false n' x z p' m' u v q') (fun k => ?_) (j2_ev o1 o2))
      · rw [cubitlaw07_PauliTexts.j0, c1, Q.bs, if_pos h1, c2, Q.bs, h2]
        rfl
      · have hsz : (textOf n' x z p').size ≤ 140737488351232 := by
          have h3 := (letters_let (x : Int) (z : Int) n').2
          have h4 : (signOf (p' : Int)).length ≤ 2 := by
            unfold signOf
            split
            · decide
            · split
              · decide
              · split <;> decide
          have h5 := o1.hn
          show (signOf (p' : Int) ++ letters (x : Int) (z : Int) n').length ≤ _
          rw [List.length_append]
          omega
        rw [cubitlaw07_PauliTexts.j1, if_neg (by decide), text_ok o1, Q.bs, parse_some hsz, parse_text o1, Q.bs, if_pos rfl, if_pos rfl]
        simp only [beq_self_eq_true, Bool.not_true, Bool.or_self]
    · refine Ev.step (f := fun k => cubitlaw07_PauliTexts.j1 k true n x z p m u v q) (fun k => ?_) yes
      rw [cubitlaw07_PauliTexts.j0, c1, Q.bs, if_pos h1, c2, Q.bs, bne_iff_ne.mpr h2]
  · refine Ev.step (f := fun k => cubitlaw07_PauliTexts.j1 k true n x z p m u v q) (fun k => ?_) yes
    rw [cubitlaw07_PauliTexts.j0, c1, Q.bs, if_neg h1]
theorem toList_eq (s : ByteArray) : s.toList = s.data.toList := Lib.toList_data s
theorem PauliTexts : cubitlaw07_PauliTexts.Pure := by
  intro n x z p m u v q s wn wx wz wp wm wu wv wq hs
  obtain ⟨x, hx, rfl⟩ := word wx
  obtain ⟨z, hz, rfl⟩ := word wz
  obtain ⟨u, hu, rfl⟩ := word wu
  obtain ⟨v, hv, rfl⟩ := word wv
  clear wn wx wz wp wm wu wv wq
  have j0 := @j0_ev n p m q x z u v hx hz hu hv
  refine Ev.rounds ?_
  unfold cubitlaw07_PauliTexts.f
  refine Ev.bind (Ev.of cubitlaw07_awake.mono (k := 1) Q.awake) ?_
  simp only [if_true, parse_some hs, Q.bs]
  rcases parse_cases s.data.toList with ⟨n', x', z', p', hp, ok, h1, hsh⟩ | ⟨e, he, hp⟩
  · rw [hp]
    simp only [if_true, text_ok ok, Q.bs]
    have hsz : ¬ ((textOf n' x' z' p').size : Int) < 1 := by omega
    simp only [if_neg hsz]
    by_cases h0 : 0 < s.size
    · have g1 : (s.size : Int) > 0 := by omega
      have g2 : (0 : Int) < (s.size : Int) := by omega
      have hb := bt_at' s h0
      have hd0 := drop_at s h0
      rw [List.drop_zero] at hd0
      simp only [if_pos g1, if_pos g2]
      rw [hd0, pre_cons, pre_cons] at hsh
      rw [← hd0] at hsh
      by_cases h43 : bt s 0 = 43
      · simp only [if_pos h43]
        have hc : (s.data.toList[0]'h0) = 43 := (eq_byte (n := 43) (by decide)).mp ((show bt s 0 = _ from hb).symm.trans h43)
        rw [hc] at hsh
        rw [toList_eq, toList_eq, hsh (.inl rfl)]
        simp only [if_true]
        exact j0
      · simp only [if_neg h43]
        by_cases h45 : bt s 0 = 45
        · simp only [if_pos h45]
          have hc : (s.data.toList[0]'h0) = 45 := (eq_byte (n := 45) (by decide)).mp ((show bt s 0 = _ from hb).symm.trans h45)
          rw [hc] at hsh
          rw [toList_eq, toList_eq, hsh (.inr rfl)]
          simp only [if_true]
          exact j0
        · simp only [if_neg h45]
          exact j0
    · have g1 : ¬ (s.size : Int) > 0 := by omega
      simp only [if_neg g1]
      exact j0
  · rw [hp]
    simp only [if_neg he, beq_self_eq_true, Bool.not_true, Bool.or_self, Bool.false_eq_true, if_false]
    exact j0
end Go.Proofs.YtechbhjdgfcgoaaDoor.Pure
