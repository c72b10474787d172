/- The document's Parse comes to the same plain function as pauli.Parse. -/
import Derived.Test.YtechbhjdgfcgoaaDoorGParseF
import Derived.Test.YtechbhjdgfcgoaaDoorPAx5
import Derived.Test.YtechbhjdgfcgoaaDoorBitA
namespace Go.Proofs.YtechbhjdgfcgoaaDoor.Pure
open Go Go.RowKit Go.Proofs.YtechbhjdgfcgoaaDoor.PA Go.Proofs.YtechbhjdgfcgoaaDoor.B Go.Proofs.YtechbhjdgfcgoaaDoorW.PrintWords Go.Proofs.YtechbhjdgfcgoaaDoorW.PrintLast Go.Proofs.YtechbhjdgfcgoaaDoorW.PrintMore
set_option linter.unusedVariables false
set_option linter.unusedSimpArgs false
theorem bs {α β : Type} (a : α) (f : α → Option β) : (some a).bind f = f a := by rw [Option.bind_some]
theorem pre_nil (c : UInt8) : Lib.hasPrefix [] [c] = false := rfl
theorem pre_cons (c d : UInt8) (l : List UInt8) : Lib.hasPrefix (d :: l) [c] = (c == d) := by simp [Lib.hasPrefix, List.isPrefixOf]
theorem trim_yes {c d : UInt8} {l : List UInt8} (h : (c == d) = true) : Lib.trimPrefix (d :: l) [c] = l := by
  unfold Lib.trimPrefix
  rw [pre_cons, h]
  rfl
theorem trim_no {c d : UInt8} {l : List UInt8} (h : (c == d) = false) : Lib.trimPrefix (d :: l) [c] = d :: l := by
  unfold Lib.trimPrefix
  rw [pre_cons, h]
  rfl
theorem trim_nil' (c : UInt8) : Lib.trimPrefix [] [c] = [] := rfl
theorem bt_at' (s : ByteArray) {i : Nat} (h : i < s.size) : bt s (i : Int) = (((s.data.toList[i]'h).toNat : Nat) : Int) := by
  unfold bt
  rw [dif_pos (show (i : Int).toNat < s.size by simpa using h)]
  rfl
theorem drop_at (s : ByteArray) {i : Nat} (h : i < s.size) : s.data.toList.drop i = (s.data.toList[i]'h) :: s.data.toList.drop (i + 1) := List.drop_eq_getElem_cons h
theorem eq_byte {c : UInt8} {n : Nat} (hn : n < 256) : ((c.toNat : Nat) : Int) = (n : Int) ↔ c = UInt8.ofNat n := by
  constructor
  · intro h
    have h' : c.toNat = n := by exact_mod_cast h
    apply UInt8.toNat_inj.mp
    rw [h', UInt8.toNat_ofNat']
    omega
  · rintro rfl
    rw [UInt8.toNat_ofNat']
    omega
theorem wn {n : Nat} (h : n ≤ 140737488351232) : wrap64 ((n : Int) + 1) = ((n + 1 : Nat) : Int) := by
  unfold wrap64
  omega
/-- Behind the sign and the letter i. -/
def fin (r : List UInt8) (p : Int) : Int × Int × Int × Int × Int :=
  if r.all isLet = true then (if r.length ≤ 64 then ((r.length : Int), ((bitsOf 88 89 r 0 : Nat) : Int), ((bitsOf 90 89 r 0 : Nat) : Int), p, 0) else (0, 0, 0, 0, 1)) else (0, 0, 0, 0, 70)
theorem shl_or {v j : Nat} : v * 2 ^ (j + 1) ||| 2 ^ j = (2 * v + 1) * 2 ^ j := by
  have h := Nat.two_pow_add_eq_or_of_lt (i := j + 1) (b := 2 ^ j) (Nat.pow_lt_pow_right (by decide) (Nat.lt_succ_self j)) v
  rw [Nat.mul_comm, ← h, Nat.pow_succ, Nat.add_mul, Nat.one_mul]
  congr 1
  ac_rfl
theorem shl_stay {v j : Nat} : v * 2 ^ (j + 1) = (2 * v + 0) * 2 ^ j := by
  rw [Nat.pow_succ, Nat.add_zero, Nat.mul_comm 2 v, Nat.mul_assoc, Nat.mul_comm (2 ^ j) 2]
theorem top_lt {v m n : Nat} (hv : v < 2 ^ m) (hmn : m ≤ n) (hn : n ≤ 64) : v * 2 ^ (n - m) < 2 ^ 64 := by
  have h1 : v * 2 ^ (n - m) < 2 ^ m * 2 ^ (n - m) := Nat.mul_lt_mul_of_pos_right hv (Nat.two_pow_pos _)
  rw [← Nat.pow_add, show m + (n - m) = n by omega] at h1
  exact Nat.lt_of_lt_of_le h1 (Nat.pow_le_pow_right (by decide) hn)
/-- The document's set, at a letter. -/
theorem set_let {x z j : Nat} {n p : Int} (hj : j < 64) (hx : x * 2 ^ (j + 1) < 2 ^ 64) (hz : z * 2 ^ (j + 1) < 2 ^ 64) {c : UInt8} (hc : c = 88 ∨ c = 89 ∨ c = 90) (k : Nat) :
    cubitref07_set.f (k + 1) n ((x * 2 ^ (j + 1) : Nat) : Int) ((z * 2 ^ (j + 1) : Nat) : Int) p j (wrap64 ((wrap64 ((wrap64 ((c.toNat : Nat) : Int)) - 88)) + 1)) =
      some (n, (((2 * x + if c = 88 ∨ c = 89 then 1 else 0) * 2 ^ j : Nat) : Int), (((2 * z + if c = 90 ∨ c = 89 then 1 else 0) * 2 ^ j : Nat) : Int), p) := by
  have h64 : (2 : Nat) ^ j < 2 ^ 64 := Nat.pow_lt_pow_right (by decide) hj
  have hs := one_shl hj
  have ox := @or_u (x * 2 ^ (j + 1)) (2 ^ j) hx h64
  have oz := @or_u (z * 2 ^ (j + 1)) (2 ^ j) hz h64
  rw [shl_or] at ox oz
  have h0 : (0 : Int) ≤ (j : Int) := by omega
  rcases hc with rfl | rfl | rfl
  · rw [show wrap64 ((wrap64 ((wrap64 (((88 : UInt8).toNat : Nat) : Int)) - 88)) + 1) = 1 by decide +kernel]
    unfold cubitref07_set.f
    rw [if_pos rfl, cubitref07_set.j0, if_pos rfl, if_pos h0, if_neg (by decide), if_neg (by decide), hs, ox, if_pos (by decide), if_neg (by decide), ← shl_stay]
  · rw [show wrap64 ((wrap64 ((wrap64 (((89 : UInt8).toNat : Nat) : Int)) - 88)) + 1) = 2 by decide +kernel]
    unfold cubitref07_set.f
    rw [if_neg (by decide), show ((2 : Int) == 2) = true from rfl, cubitref07_set.j0, if_pos rfl, if_pos h0, if_pos rfl, hs, ox, oz, if_pos (by decide), if_pos (by decide)]
  · rw [show wrap64 ((wrap64 ((wrap64 (((90 : UInt8).toNat : Nat) : Int)) - 88)) + 1) = 3 by decide +kernel]
    unfold cubitref07_set.f
    rw [if_neg (by decide), show ((3 : Int) == 2) = false from rfl, cubitref07_set.j0, if_neg (by decide), if_neg (by decide), if_pos rfl, if_pos h0, hs, oz, if_neg (by decide), if_pos (by decide), ← shl_stay]
theorem bits_take (a b : UInt8) (r : List UInt8) {m : Nat} (h : m < r.length) : bitsOf a b (r.take (m + 1)) 0 = 2 * bitsOf a b (r.take m) 0 + if r[m] = a ∨ r[m] = b then 1 else 0 := by
  rw [List.take_succ_eq_append_getElem h, bitsOf_app]; rfl
theorem bits_take_lt (a b : UInt8) (r : List UInt8) (m : Nat) : bitsOf a b (r.take m) 0 < 2 ^ m := by
  have h1 := bitsOf_lt a b (r.take m) 0 0 (by decide)
  have h2 : (r.take m).length ≤ m := List.length_take_le _ _
  exact Nat.lt_of_lt_of_le h1 (Nat.pow_le_pow_right (by decide) (by omega))
theorem wpos {s i m n : Nat} (hs : s ≤ 140737488351232) (h : i + n = s) (hm : m < n) : wrap64 ((wrap64 ((s : Int) - 1)) - ((i + m : Nat) : Int)) = ((n - 1 - m : Nat) : Int) := by
  have h1 : wrap64 ((s : Int) - 1) = (s : Int) - 1 := by
    unfold wrap64
    omega
  rw [h1]
  unfold wrap64
  omega
/-- The loop that sets the letters. -/
theorem l1_ev {s : ByteArray} (hs : s.size ≤ 140737488351232) {i n : Nat} (hi : i + n = s.size) (hn : n ≤ 64) {p : Int} (hl : ∀ (m : Nat) (h : i + m < s.size), isLet (s.data.toList[i + m]'h) = true) : ∀ (d m : Nat), m + d = n →
    Ev (fun k => cubitref07_Parse.l1 k s ((i + m : Nat) : Int) (n : Int) ((bitsOf 88 89 ((s.data.toList.drop i).take m) 0 * 2 ^ (n - m) : Nat) : Int) ((bitsOf 90 89 ((s.data.toList.drop i).take m) 0 * 2 ^ (n - m) : Nat) : Int) p)
      ((n : Int), ((bitsOf 88 89 (s.data.toList.drop i) 0 : Nat) : Int), ((bitsOf 90 89 (s.data.toList.drop i) 0 : Nat) : Int), p, 0)
  | 0, m, hm => by
    obtain rfl : m = n := by omega
    have hlen : (s.data.toList.drop i).length = m := by
      rw [List.length_drop]
      have : s.data.toList.length = s.size := rfl
      omega
    rw [List.take_of_length_le (by omega), Nat.sub_self, Nat.pow_zero, Nat.mul_one, Nat.mul_one]
    refine Ev.step (f := fun _ => some _) (fun k => ?_) (Ev.now _)
    rw [cubitref07_Parse.l1, if_neg (by omega)]
  | d + 1, m, hm => by
    have hlt : i + m < s.size := by omega
    have hlen : (s.data.toList.drop i).length = n := by
      rw [List.length_drop]
      have : s.data.toList.length = s.size := rfl
      omega
    have hml : m < (s.data.toList.drop i).length := by omega
    have hrm : (s.data.toList.drop i)[m]'hml = s.data.toList[i + m]'hlt := List.getElem_drop
    have ih := l1_ev (p := p) hs hi hn hl d (m + 1) (by omega)
    have hbx := bits_take 88 89 (s.data.toList.drop i) hml
    have hbz := bits_take 90 89 (s.data.toList.drop i) hml
    rw [hrm] at hbx hbz
    have e1 : n - m = (n - 1 - m) + 1 := by omega
    have e2 : n - (m + 1) = n - 1 - m := by omega
    have hmn : m ≤ n := by omega
    have g1 : ((i + m : Nat) : Int) < (s.size : Int) := by omega
    have g2 : (0 : Int) ≤ ((i + m : Nat) : Int) := by omega
    have g3 : n - 1 - m < 64 := by omega
    have hw : wrap64 (((i + m : Nat) : Int) + 1) = ((i + (m + 1) : Nat) : Int) := wn (by omega)
    have hwp := wpos hs hi (show m < n by omega)
    rw [e2, hbx, hbz] at ih
    rw [e1]
    have hL := hl m hlt
    have hb := bt_at' s hlt
    generalize s.data.toList[i + m]'hlt = c at *
    clear hbx hbz hrm
    by_cases h73 : c = 73
    · subst h73
      refine Ev.step (fun k => ?_) ih
      rw [cubitref07_Parse.l1, if_pos g1, if_pos g2, hb, if_pos (by decide), hw]
      rw [if_neg (by decide), if_neg (by decide), ← shl_stay, ← shl_stay]
    · have hc : c = 88 ∨ c = 89 ∨ c = 90 := by
        unfold isLet at hL
        simp only [List.contains_cons, List.contains_nil, Bool.or_false, Bool.or_eq_true, beq_iff_eq] at hL
        rcases hL with h | h | h | h
        · exact absurd h h73
        · exact .inl h
        · exact .inr (.inl h)
        · exact .inr (.inr h)
      obtain ⟨K, ih⟩ := ih
      refine ⟨K + 2, fun k hk => ?_⟩
      obtain ⟨k, rfl⟩ : ∃ q, k = q + 1 + 1 := ⟨k - 2, by omega⟩
      have hk1 : K ≤ k + 1 := by omega
      have hne : ¬ ((c.toNat : Nat) : Int) = 73 := fun h => h73 ((eq_byte (n := 73) (by decide)).mp h)
      have tX := top_lt (bits_take_lt 88 89 (s.data.toList.drop i) m) hmn hn
      have tZ := top_lt (bits_take_lt 90 89 (s.data.toList.drop i) m) hmn hn
      rw [e1] at tX tZ
      show cubitref07_Parse.l1 (k + 1 + 1) _ _ _ _ _ _ = _
      rw [cubitref07_Parse.l1, if_pos g1, if_pos g2, hb, if_neg hne, hwp, set_let g3 tX tZ hc, bs, hw]
      exact ih (k + 1) hk1
/-- The loop that looks at the letters. -/
theorem l0_ev {s : ByteArray} (hs : s.size ≤ 140737488351232) {i n : Nat} (hi : i + n = s.size) {p : Int} : ∀ (d m : Nat), m + d = n → (∀ (q : Nat) (h : i + q < s.size), q < m → isLet (s.data.toList[i + q]'h) = true) →
    Ev (fun k => cubitref07_Parse.l0 k s (i : Int) (n : Int) ((i + m : Nat) : Int) 0 0 0 p) (fin (s.data.toList.drop i) p)
  | 0, m, hm, hq => by
    obtain rfl : m = n := by omega
    have hlen : (s.data.toList.drop i).length = m := by
      rw [List.length_drop]
      have : s.data.toList.length = s.size := rfl
      omega
    have hall : (s.data.toList.drop i).all isLet = true := by
      rw [List.all_eq_true]
      intro c hc
      obtain ⟨q, hq1, rfl⟩ := List.getElem_of_mem hc
      rw [List.getElem_drop]
      exact hq q (by omega) (by omega)
    unfold fin
    rw [if_pos hall]
    by_cases h64 : m ≤ 64
    · rw [if_pos (by omega), hlen]
      have := l1_ev hs hi h64 (p := p) (fun q h => hq q h (by omega)) m 0 (by omega)
      rw [List.take_zero] at this
      refine Ev.step (fun k => ?_) this
      rw [cubitref07_Parse.l0, if_neg (by omega), if_neg (by omega), show bitsOf 88 89 [] 0 = 0 from rfl, show bitsOf 90 89 [] 0 = 0 from rfl, Nat.zero_mul, Nat.add_zero]
      rfl
    · rw [if_neg (by omega)]
      refine Ev.step (f := fun _ => some _) (fun k => ?_) (Ev.now _)
      rw [cubitref07_Parse.l0, if_neg (by omega), if_pos (by omega)]
  | d + 1, m, hm, hq => by
    have hlt : i + m < s.size := by omega
    have hb := bt_at' s hlt
    have hw : wrap64 (((i + m : Nat) : Int) + 1) = ((i + (m + 1) : Nat) : Int) := wn (by omega)
    by_cases hL : isLet (s.data.toList[i + m]'hlt) = true
    · have ih := l0_ev hs hi (p := p) d (m + 1) (by omega) (fun q h hqm => by
        rcases Nat.lt_or_ge q m with h1 | h1
        · exact hq q h h1
        · obtain rfl : q = m := by omega
          exact hL)
      refine Ev.step (fun k => ?_) ih
      rw [cubitref07_Parse.l0, if_pos (by omega), if_pos (by omega), hb, hw]
      generalize s.data.toList[i + m]'hlt = c at hL
      unfold isLet at hL
      simp only [List.contains_cons, List.contains_nil, Bool.or_false, Bool.or_eq_true, beq_iff_eq] at hL
      rcases hL with rfl | rfl | rfl | rfl
      · rw [if_pos (by decide)]
      · rw [if_neg (by decide), if_pos (by decide)]
      · rw [if_neg (by decide), if_neg (by decide), if_pos (by decide)]
      · rw [if_neg (by decide), if_neg (by decide), if_neg (by decide), if_pos (by decide)]
    · have hall : ¬ (s.data.toList.drop i).all isLet = true := by
        intro h
        rw [List.all_eq_true] at h
        have hml : m < (s.data.toList.drop i).length := by
          rw [List.length_drop]
          have : s.data.toList.length = s.size := rfl
          omega
        have := h _ (List.getElem_mem hml)
        rw [List.getElem_drop] at this
        exact hL this
      unfold fin
      rw [if_neg hall]
      refine Ev.step (f := fun _ => some _) (fun k => ?_) (Ev.now _)
      rw [cubitref07_Parse.l0, if_pos (by omega), if_pos (by omega), hb]
      have no : ∀ n : Nat, n < 256 → isLet (UInt8.ofNat n) = true → ¬ ((((s.data.toList[i + m]'hlt).toNat : Nat)) : Int) = (n : Int) := fun n hn hl h => hL (by rw [(eq_byte hn).mp h]; exact hl)
      have n73 : ¬ (((s.data.toList[i + m]'hlt).toNat : Nat) : Int) = 73 := no 73 (by decide) (by decide)
      have n88 : ¬ (((s.data.toList[i + m]'hlt).toNat : Nat) : Int) = 88 := no 88 (by decide) (by decide)
      have n89 : ¬ (((s.data.toList[i + m]'hlt).toNat : Nat) : Int) = 89 := no 89 (by decide) (by decide)
      have n90 : ¬ (((s.data.toList[i + m]'hlt).toNat : Nat) : Int) = 90 := no 90 (by decide) (by decide)
      rw [if_neg n73, if_neg n88, if_neg n89, if_neg n90]
theorem j3_ev {s : ByteArray} (hs : s.size ≤ 140737488351232) {i : Nat} (hi : i ≤ s.size) (p : Int) : Ev (fun k => cubitref07_Parse.j3 k s (i : Int) 0 0 0 p) (fin (s.data.toList.drop i) p) := by
  refine Ev.step (fun k => ?_) (l0_ev hs (i := i) (n := s.size - i) (p := p) (by omega) (s.size - i) 0 (by omega) (fun q h hq => by omega))
  rw [cubitref07_Parse.j3]
  have e : wrap64 ((s.size : Int) - (i : Int)) = ((s.size - i : Nat) : Int) := by
    unfold wrap64
    omega
  rw [e]
  rfl
theorem j1_ev {s : ByteArray} (hs : s.size ≤ 140737488351232) {i : Nat} (hi : i ≤ s.size) {p : Int} (hp : p = 0 ∨ p = 2) : Ev (fun k => cubitref07_Parse.j1 k s (i : Int) 0 0 0 p) (fin (Lib.trimPrefix (s.data.toList.drop i) [105]) (p + if Lib.hasPrefix (s.data.toList.drop i) [105] = true then 1 else 0)) := by
  by_cases hlt : i < s.size
  · have hb := bt_at' s hlt
    rw [drop_at s hlt, pre_cons]
    cases h : ((105 : UInt8) == (s.data.toList[i]'hlt)) with
    | true =>
      rw [trim_yes h, if_pos rfl]
      have hc : (s.data.toList[i]'hlt) = 105 := (beq_iff_eq.mp h).symm
      refine Ev.step (f := fun k => cubitref07_Parse.j2 k s (i : Int) true 0 0 0 p) (fun k => ?_) (Ev.step (fun k => ?_) (j3_ev hs (i := i + 1) (by omega) (p + 1)))
      · rw [cubitref07_Parse.j1, if_pos (by omega), if_pos (by omega), hb, hc]
        rfl
      · rw [cubitref07_Parse.j2, if_pos rfl, wn (by omega)]
        have : wrap64 (p + 1) = p + 1 := by rcases hp with rfl | rfl <;> decide +kernel
        rw [this]
    | false =>
      rw [trim_no h, if_neg (by decide), Int.add_zero, ← drop_at s hlt]
      have hc : ¬ (((s.data.toList[i]'hlt).toNat : Nat) : Int) = 105 := fun h2 => by
        have := (eq_byte (n := 105) (by decide)).mp h2
        rw [this] at h
        exact absurd h (by decide)
      refine Ev.step (f := fun k => cubitref07_Parse.j2 k s (i : Int) false 0 0 0 p) (fun k => ?_) (Ev.step (fun k => ?_) (j3_ev hs hi p))
      · rw [cubitref07_Parse.j1, if_pos (by omega), if_pos (by omega), hb, beq_eq_false_iff_ne.mpr hc]
      · rw [cubitref07_Parse.j2, if_neg (by decide)]
  · obtain rfl : i = s.size := by omega
    have hd : s.data.toList.drop s.size = [] := List.drop_of_length_le (Nat.le_refl _)
    have h3 := j3_ev hs (Nat.le_refl s.size) p
    rw [hd] at h3 ⊢
    rw [pre_nil, trim_nil', if_neg (by decide), Int.add_zero]
    refine Ev.step (f := fun k => cubitref07_Parse.j2 k s (s.size : Int) false 0 0 0 p) (fun k => ?_) (Ev.step (fun k => ?_) h3)
    · rw [cubitref07_Parse.j1, if_neg (by omega)]
    · rw [cubitref07_Parse.j2, if_neg (by decide)]
theorem parse_fin (l : List UInt8) : parseOf l = fin (restOf l) ((if Lib.hasPrefix l [45] = true then 2 else 0) + if Lib.hasPrefix (r1Of l) [105] = true then 1 else 0) := by
  unfold parseOf fin ph
  cases Lib.hasPrefix l [45] <;> cases Lib.hasPrefix (r1Of l) [105] <;> rfl
theorem refparse_ev {s : ByteArray} (hs : s.size ≤ 140737488351232) : Ev (fun k => cubitref07_Parse.f k s) (parseOf s.data.toList) := by
  rw [parse_fin]
  unfold cubitref07_Parse.f restOf
  by_cases h0 : 0 < s.size
  · have hb := bt_at' s h0
    have hd0 := drop_at s h0
    rw [List.drop_zero] at hd0
    have h1 := j1_ev hs (i := 1) (by omega) (p := 0) (.inl rfl)
    have h2 := j1_ev hs (i := 1) (by omega) (p := 2) (.inr rfl)
    have hz := j1_ev hs (i := 0) (by omega) (p := 0) (.inl rfl)
    rw [List.drop_zero] at hz
    generalize hc : (s.data.toList[0]'h0) = c at *
    by_cases h43 : c = 43
    · subst h43
      have hm : Lib.hasPrefix s.data.toList [45] = false := by rw [hd0, pre_cons]; rfl
      have hr : r1Of s.data.toList = s.data.toList.drop 1 := by
        unfold r1Of
        rw [hm, if_neg (by decide), hd0, trim_yes rfl]
        rfl
      rw [hm, hr, if_neg (by decide)]
      refine Ev.congr (f := fun k => cubitref07_Parse.j0 k s 0 true 0 0 0 0) (fun k => ?_) (Ev.step (fun k => ?_) h1)
      · rw [if_pos (by omega), show bt s 0 = _ from hb, if_pos (by decide)]
      · rw [cubitref07_Parse.j0, if_pos rfl, if_pos (by decide), if_pos (by omega), show bt s 0 = _ from hb, if_neg (by decide), show wrap64 (0 + 1) = ((1 : Nat) : Int) by decide +kernel]
    · by_cases h45 : c = 45
      · subst h45
        have hm : Lib.hasPrefix s.data.toList [45] = true := by rw [hd0, pre_cons]; rfl
        have hr : r1Of s.data.toList = s.data.toList.drop 1 := by
          unfold r1Of
          rw [hm, if_pos rfl, hd0, trim_yes rfl]
          rfl
        rw [hm, hr, if_pos rfl]
        refine Ev.congr (f := fun k => cubitref07_Parse.j0 k s 0 true 0 0 0 0) (fun k => ?_) (Ev.step (fun k => ?_) h2)
        · rw [if_pos (by omega), show bt s 0 = _ from hb, if_neg (by decide)]
          rfl
        · rw [cubitref07_Parse.j0, if_pos rfl, if_pos (by decide), if_pos (by omega), show bt s 0 = _ from hb, if_pos (by decide), show wrap64 (0 + 1) = ((1 : Nat) : Int) by decide +kernel]
      · have hm : Lib.hasPrefix s.data.toList [45] = false := by
          rw [hd0, pre_cons]
          exact beq_eq_false_iff_ne.mpr (fun e => h45 e.symm)
        have hr : r1Of s.data.toList = s.data.toList := by
          unfold r1Of
          rw [hm, if_neg (by decide), hd0, trim_no (beq_eq_false_iff_ne.mpr (fun e => h43 e.symm))]
        have n43 : ¬ ((c.toNat : Nat) : Int) = 43 := fun h => h43 ((eq_byte (n := 43) (by decide)).mp h)
        have n45 : ¬ ((c.toNat : Nat) : Int) = 45 := fun h => h45 ((eq_byte (n := 45) (by decide)).mp h)
        rw [hm, hr, if_neg (by decide)]
        refine Ev.congr (f := fun k => cubitref07_Parse.j0 k s 0 false 0 0 0 0) (fun k => ?_) (Ev.step (fun k => ?_) hz)
        · rw [if_pos (by omega), show bt s 0 = _ from hb, if_neg n43, beq_eq_false_iff_ne.mpr n45]
        · rw [cubitref07_Parse.j0, if_neg (by decide)]
          rfl
  · have hnil : s.data.toList = [] := List.length_eq_zero_iff.mp (by have : s.data.toList.length = s.size := rfl; omega)
    have hz := j1_ev hs (i := 0) (by omega) (p := 0) (.inl rfl)
    rw [List.drop_zero] at hz
    rw [hnil] at hz ⊢
    refine Ev.congr (f := fun k => cubitref07_Parse.j0 k s 0 false 0 0 0 0) (fun k => ?_) (Ev.step (fun k => ?_) hz)
    · rw [if_neg (by omega)]
    · rw [cubitref07_Parse.j0, if_neg (by decide)]
      rfl
theorem parse_some {s : ByteArray} (hs : s.size ≤ 140737488351232) : pauli_Parse.f s = some (parseOf s.data.toList) := by
  unfold pauli_Parse.f
  rw [if_pos (by omega)]
end Go.Proofs.YtechbhjdgfcgoaaDoor.Pure
