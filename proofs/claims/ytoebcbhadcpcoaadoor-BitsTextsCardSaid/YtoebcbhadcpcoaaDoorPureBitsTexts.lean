/- BitsTexts: Text and Parse answer as the reference does, and take each other back, for all words, widths and texts. -/
import Derived.Test.YtoebcbhadcpcoaaDoorPureBitsBack
import Derived.Test.YtoebcbhadcpcoaaDoorPAx8
import Derived.Test.YtoebcbhadcpcoaaDoorLexBytes
namespace Go.Proofs.YtoebcbhadcpcoaaDoor.Pure
open Go.RowKit Go.Proofs.YtoebcbhadcpcoaaDoor.PA Go.Proofs.YtoebcbhadcpcoaaDoor.B Go.Proofs.YtoebcbhadcpcoaaDoorW.PrintWords Go.Proofs.YtoebcbhadcpcoaaDoorW.PrintLast Go.Proofs.YtoebcbhadcpcoaaDoorW.PrintMore
set_option linter.unusedVariables false
set_option linter.unusedSimpArgs false
theorem bt_nums (xs : List Int) {i : Nat} (hi : i < xs.length) (h : 0 ≤ xs[i] ∧ xs[i] ≤ 255) : bt (strOfNums xs) (i : Int) = xs[i] := by
  unfold bt
  rw [dif_pos (by rw [strOfNums_size]; simpa using hi)]
  have hi' : i < (xs.map fun n => UInt8.ofNat n.toNat).length := by rw [List.length_map]; exact hi
  have e : ((strOfNums xs)[(i : Int).toNat]'(by rw [strOfNums_size]; simpa using hi)) = (xs.map fun n => UInt8.ofNat n.toNat)[i] := rfl
  rw [e, List.getElem_map]
  generalize xs[i] = c at h
  obtain ⟨n, rfl⟩ : ∃ n : Nat, c = (n : Int) := ⟨c.toNat, by omega⟩
  show (((UInt8.ofNat n).toNat : Nat) : Int) = _
  rw [UInt8.toNat_ofNat']
  omega
theorem nums_app (xs ys : List Int) : strOfNums (xs ++ ys) = strOfNums xs ++ strOfNums ys := by
  apply ByteArray.ext
  rw [ByteArray.data_append]
  simp [strOfNums]
theorem bb_range (b : Bool) : 0 ≤ bb b ∧ bb b ≤ 1 := by cases b <;> decide
theorem word_byte (b : Bool) : IntKind.u64.wrap (48 + bb b) % 256 = 48 + bb b := by
  cases b
  · rw [show 48 + bb false = ((48 : Nat) : Int) from rfl, wrapn (by decide)]; rfl
  · rw [show 48 + bb true = ((49 : Nat) : Int) from rfl, wrapn (by decide)]; rfl
/-- The text after j bytes, from the right. -/
def row (n x j : Nat) : List Int := (List.range n).map (fun i => if n - j ≤ i then 48 + bb (x.testBit (n - 1 - i)) else 0)
theorem row_length (n x j : Nat) : (row n x j).length = n := by unfold row; rw [List.length_map, List.length_range]
theorem row_get (n x j i : Nat) (h : i < (row n x j).length) : (row n x j)[i] = if n - j ≤ i then 48 + bb (x.testBit (n - 1 - i)) else 0 := by
  have h' : i < ((List.range n).map (fun i => if n - j ≤ i then 48 + bb (x.testBit (n - 1 - i)) else 0)).length := by rw [List.length_map, List.length_range]; rw [row_length] at h; exact h
  show ((List.range n).map (fun i => if n - j ≤ i then 48 + bb (x.testBit (n - 1 - i)) else 0))[i] = _
  rw [List.getElem_map, List.getElem_range]
theorem row_zero (n x : Nat) : List.replicate n (0 : Int) = row n x 0 := by
  refine List.ext_getElem (by rw [row_length, List.length_replicate]) (fun i h1 h2 => ?_)
  rw [row_length] at h2
  rw [row_get, if_neg (by omega), List.getElem_replicate]
theorem row_set (n x j : Nat) (hj : j < n) : (row n x j).set (n - 1 - j) (48 + bb (x.testBit j)) = row n x (j + 1) := by
  refine List.ext_getElem (by rw [List.length_set, row_length, row_length]) (fun i h1 h2 => ?_)
  rw [row_length] at h2
  rw [List.getElem_set, row_get n x (j + 1)]
  by_cases h : n - 1 - j = i
  · rw [if_pos h, if_pos (by omega), show n - 1 - i = j by omega]
  · rw [if_neg h, row_get n x j]
    by_cases h3 : n - j ≤ i
    · rw [if_pos h3, if_pos (by omega)]
    · rw [if_neg h3, if_neg (by omega)]
theorem text_loop {x : Nat} (hx : x < 2 ^ 64) {n : Nat} (hn : n ≤ 64) : ∀ (m j : Nat), n - j ≤ m → j ≤ n → Ev (fun k => bits_Text.l0 k (x : Int) (n : Int) (row n x j) (n : Int) (j : Int)) (strOfNums (row n x n), 0) := by
  have fin : ∀ j : Nat, j = n → Ev (fun k => bits_Text.l0 k (x : Int) (n : Int) (row n x j) (n : Int) (j : Int)) (strOfNums (row n x n), 0) := by
    intro j hj
    subst hj
    refine Ev.step (f := fun _ => some (strOfNums (row j x j), 0)) (fun k => ?_) (Ev.now _)
    simp only [bits_Text.l0]
    rw [if_neg (by omega)]
  intro m
  induction m with
  | zero => intro j h1 h2; exact fin j (by omega)
  | succ m ih =>
    intro j h1 h2
    by_cases hj : j < n
    · refine Ev.step (fun k => ?_) (ih (j + 1) (by omega) (by omega))
      have e1 : wrap64 ((n : Int) - 1) = ((n - 1 : Nat) : Int) := by unfold wrap64; omega
      have e2 : wrap64 (((n - 1 : Nat) : Int) - (j : Int)) = ((n - 1 - j : Nat) : Int) := by unfold wrap64; omega
      simp only [bits_Text.l0]
      rw [if_pos (by omega), if_pos (by omega), e1, e2, if_pos (by omega), row_length, if_pos (by omega), sh1 hx, word_byte, Int.toNat_natCast, row_set n x j hj, w1n hj (by omega)]
    · exact fin j (by omega)
theorem reftext_loop {x : Nat} (hx : x < 2 ^ 64) {n : Nat} (hn : n ≤ 64) : ∀ (t m : Nat), n - m ≤ t → m ≤ n → Ev (fun k => cubitref03_Text.l1 k (x : Int) (strOfNums ((row n x n).take m)) ((n : Int) - 1 - (m : Int))) (strOfNums (row n x n), 0) := by
  have fin : ∀ m : Nat, m = n → Ev (fun k => cubitref03_Text.l1 k (x : Int) (strOfNums ((row n x n).take m)) ((n : Int) - 1 - (m : Int))) (strOfNums (row n x n), 0) := by
    intro m hm
    subst hm
    rw [List.take_of_length_le (by rw [row_length]; exact Nat.le_refl _)]
    refine Ev.step (f := fun _ => some (strOfNums (row m x m), 0)) (fun k => ?_) (Ev.now _)
    simp only [cubitref03_Text.l1]
    rw [if_neg (by omega)]
  intro t
  induction t with
  | zero => intro m h1 h2; exact fin m (by omega)
  | succ t ih =>
    intro m h1 h2
    by_cases hm : m < n
    · refine Ev.step (fun k => ?_) (ih (m + 1) (by omega) (by omega))
      have e1 : (n : Int) - 1 - (m : Int) = ((n - 1 - m : Nat) : Int) := by omega
      have e2 : wrap64 (((n - 1 - m : Nat) : Int) - 1) = (n : Int) - 1 - ((m + 1 : Nat) : Int) := by unfold wrap64; omega
      have hl : m < (row n x n).length := by rw [row_length]; exact hm
      have e3 : (row n x n).take (m + 1) = (row n x n).take m ++ [48 + bb (x.testBit (n - 1 - m))] := by
        rw [List.take_succ_eq_append_getElem hl, row_get, if_pos (by omega)]
      have hsz : (strOfNums ((row n x n).take m)).size = m := by rw [strOfNums_size, List.length_take, row_length]; omega
      simp only [cubitref03_Text.l1]
      rw [e1, if_pos (by omega), bit_n hx (by omega)]
      rw [Option.bind_some, hsz, e2, e3, nums_app]
      cases hb : x.testBit (n - 1 - m) with
      | true =>
        rw [if_pos (show bb true = 1 from rfl), if_pos (by omega)]
        rfl
      | false =>
        rw [if_neg (by decide), if_pos (by omega)]
        rfl
    · exact fin m (by omega)
theorem small_of_bits {v n : Nat} (hv : v < 2 ^ 64) (hm : ∀ m, n ≤ m → m < 64 → v.testBit m = false) : v < 2 ^ n := by
  rcases Nat.lt_or_ge v (2 ^ n) with h | h
  · exact h
  · exfalso
    obtain ⟨m, h1, h2⟩ := Nat.exists_ge_and_testBit_of_ge_two_pow h
    rcases Nat.lt_or_ge m 64 with h3 | h3
    · rw [hm m h1 h3] at h2
      cases h2
    · rw [bit_ge hv h3] at h2
      cases h2
theorem reftext_high {x : Nat} (hx : x < 2 ^ 64) {n : Nat} (hn : n ≤ 64) : ∀ (t i : Nat), 64 - i ≤ t → i ≤ 64 → n ≤ i → (∀ m, n ≤ m → m < i → x.testBit m = false) →
    Ev (fun k => cubitref03_Text.l0 k (x : Int) (n : Int) (i : Int)) (if decide (2 ^ n ≤ x) then ((⟨#[]⟩ : ByteArray), 2) else (strOfNums (row n x n), 0)) := by
  have fin : ∀ i : Nat, i = 64 → (∀ m, n ≤ m → m < i → x.testBit m = false) → Ev (fun k => cubitref03_Text.l0 k (x : Int) (n : Int) (i : Int)) (if decide (2 ^ n ≤ x) then ((⟨#[]⟩ : ByteArray), 2) else (strOfNums (row n x n), 0)) := by
    intro i hi hm
    have := small_of_bits hx (n := n) (fun m h1 h2 => hm m h1 (by omega))
    rw [decide_eq_false (by omega)]
    refine Ev.step (fun k => ?_) (reftext_loop hx hn n 0 (by omega) (by omega))
    have e : wrap64 ((n : Int) - 1) = (n : Int) - 1 - ((0 : Nat) : Int) := by unfold wrap64; omega
    simp only [cubitref03_Text.l0]
    rw [if_neg (by omega), e]
    rfl
  intro t
  induction t with
  | zero => intro i h1 h2 h3 hm; exact fin i (by omega) hm
  | succ t ih =>
    intro i h1 h2 h3 hm
    by_cases hi : i < 64
    · cases hb : x.testBit i with
      | true =>
        have hle : 2 ^ n ≤ x := Nat.le_trans (Nat.pow_le_pow_right (by decide) h3) (Nat.ge_two_pow_of_testBit hb)
        rw [decide_eq_true hle]
        refine Ev.step (f := fun _ => some ((⟨#[]⟩ : ByteArray), 2)) (fun k => ?_) (Ev.now _)
        simp only [cubitref03_Text.l0]
        rw [if_pos (by omega), bit_n hx (by omega), hb]
        rw [Option.bind_some, if_pos (show bb true = 1 from rfl)]
      | false =>
        refine Ev.step (fun k => ?_) (ih (i + 1) (by omega) (by omega) (by omega) (fun m h4 h5 => ?_))
        · simp only [cubitref03_Text.l0]
          rw [if_pos (by omega), bit_n hx (by omega), hb]
          rw [Option.bind_some, if_neg (by decide), w1n hi (by decide)]
        · by_cases h6 : m < i
          · exact hm m h4 h6
          · obtain rfl : m = i := by omega
            exact hb
    · exact fin i (by omega) hm
theorem reftext_ev {x : Nat} (hx : x < 2 ^ 64) {n : Nat} (hn : n ≤ 64) : Ev (fun k => cubitref03_Text.f k (x : Int) (n : Int)) (if decide (2 ^ n ≤ x) then ((⟨#[]⟩ : ByteArray), 2) else (strOfNums (row n x n), 0)) := by
  unfold cubitref03_Text.f
  have h0 : Ev (fun k => cubitref03_Text.j0 k (x : Int) (n : Int) false) (if decide (2 ^ n ≤ x) then ((⟨#[]⟩ : ByteArray), 2) else (strOfNums (row n x n), 0)) := by
    refine Ev.step (fun k => ?_) (reftext_high hx hn (64 - n) n (Nat.le_refl _) hn (Nat.le_refl _) (fun m h1 h2 => by omega))
    simp only [cubitref03_Text.j0, Bool.false_eq_true, if_false]
  refine Ev.congr (fun k => ?_) h0
  rw [if_neg (by omega), decide_eq_false (by omega)]
theorem text_ev {x : Nat} (hx : x < 2 ^ 64) {n : Nat} (hn : n ≤ 64) : Ev (fun k => bits_Text.f k (x : Int) (n : Int)) (if decide (2 ^ n ≤ x) then ((⟨#[]⟩ : ByteArray), 2) else (strOfNums (row n x n), 0)) := by
  have go : ∀ b : Bool, Ev (fun k => bits_Text.j0 k (x : Int) (n : Int) b) (if b then ((⟨#[]⟩ : ByteArray), 2) else (strOfNums (row n x n), 0)) := by
    intro b
    cases b with
    | true =>
      refine Ev.step (f := fun _ => some ((⟨#[]⟩ : ByteArray), 2)) (fun k => ?_) (Ev.now _)
      simp only [bits_Text.j0, if_true]
    | false =>
      refine Ev.step (fun k => ?_) (text_loop hx hn n 0 (by omega) (by omega))
      simp only [bits_Text.j0, Bool.false_eq_true, if_false]
      rw [if_pos (by omega), if_pos (by omega), Int.toNat_natCast, row_zero n x]
      rfl
  unfold bits_Text.f
  by_cases h : n < 64
  · rw [← high_n (n := n) hx]
    refine Ev.congr (fun k => ?_) (go _)
    rw [if_neg (by omega), if_neg (by omega), if_pos (by omega), if_pos (by omega)]
  · have h64 : n = 64 := by omega
    have : ¬ 2 ^ n ≤ x := by rw [h64]; omega
    rw [decide_eq_false this]
    refine Ev.congr (fun k => ?_) (go false)
    rw [if_neg (by omega), if_neg (by omega), if_neg (by omega)]
theorem texts_bad {x : Nat} {n : Int} (h : n < 0 ∨ n > 64) : Ev (fun k => cubitref03_Text.f k (x : Int) n) ((⟨#[]⟩ : ByteArray), 2) ∧ Ev (fun k => bits_Text.f k (x : Int) n) ((⟨#[]⟩ : ByteArray), 2) := by
  have r : Ev (fun k => cubitref03_Text.j0 k (x : Int) n true) ((⟨#[]⟩ : ByteArray), 2) := by
    refine Ev.step (f := fun _ => some ((⟨#[]⟩ : ByteArray), 2)) (fun k => ?_) (Ev.now _)
    simp only [cubitref03_Text.j0, if_true]
  have p : Ev (fun k => bits_Text.j0 k (x : Int) n true) ((⟨#[]⟩ : ByteArray), 2) := by
    refine Ev.step (f := fun _ => some ((⟨#[]⟩ : ByteArray), 2)) (fun k => ?_) (Ev.now _)
    simp only [bits_Text.j0, if_true]
  unfold cubitref03_Text.f bits_Text.f
  rcases h with h | h
  · exact ⟨Ev.congr (fun k => by rw [if_pos h]) r, Ev.congr (fun k => by rw [if_pos h]) p⟩
  · exact ⟨Ev.congr (fun k => by rw [if_neg (by omega), decide_eq_true h]) r, Ev.congr (fun k => by rw [if_neg (by omega), if_pos h]) p⟩
/-- Parse. -/
def good (s : ByteArray) : Prop := ∀ i : Nat, i < s.size → bt s (i : Int) = 48 ∨ bt s (i : Int) = 49
def dg (s : ByteArray) (i : Nat) : Bool := decide (bt s (i : Int) = 49)
def val (s : ByteArray) : Nat := ofB (fun p => dg s (s.size - 1 - p)) s.size
theorem dg_bb {s : ByteArray} {i : Nat} (h : bt s (i : Int) = 48 ∨ bt s (i : Int) = 49) : (bt s (i : Int) - 48) % 256 = bb (dg s i) := by
  unfold dg
  rcases h with h | h
  · rw [h]; rfl
  · rw [h]; rfl
theorem ofB_two (f : Nat → Bool) (n : Nat) : ofB f n < 2 ^ n := by
  rcases Nat.lt_or_ge (ofB f n) (2 ^ n) with h | h
  · exact h
  · exfalso
    obtain ⟨i, hi, hb⟩ := Nat.exists_ge_and_testBit_of_ge_two_pow h
    rw [testBit_ofB, decide_eq_false (by omega)] at hb
    cases hb
theorem ofB_next (s : ByteArray) (i : Nat) : (2 * ofB (fun p => dg s (i - 1 - p)) i ||| if dg s i then 1 else 0) = ofB (fun p => dg s (i + 1 - 1 - p)) (i + 1) := by
  refine Nat.eq_of_testBit_eq (fun p => ?_)
  rw [testBit_ofB, Nat.testBit_or]
  cases p with
  | zero =>
    have : (2 * ofB (fun p => dg s (i - 1 - p)) i).testBit 0 = false := by rw [Nat.testBit_zero]; simp
    rw [this, Bool.false_or, decide_eq_true (by omega), Bool.true_and]
    cases h : dg s i <;> simp [h]
  | succ p =>
    have e1 : (2 * ofB (fun p => dg s (i - 1 - p)) i).testBit (p + 1) = (ofB (fun p => dg s (i - 1 - p)) i).testBit p := by rw [Nat.testBit_succ, Nat.mul_div_cancel_left _ (by decide)]
    have e2 : (if dg s i then 1 else 0).testBit (p + 1) = false := by
      rw [Nat.testBit_succ]
      cases dg s i <;> simp
    rw [e1, e2, Bool.or_false, testBit_ofB, show i + 1 - 1 - (p + 1) = i - 1 - p by omega]
    by_cases h : p < i
    · rw [decide_eq_true h, decide_eq_true (show p + 1 < i + 1 by omega)]
    · rw [decide_eq_false h, decide_eq_false (show ¬ p + 1 < i + 1 by omega)]
theorem shift_in {s : ByteArray} {i : Nat} (hi : i < 64) : Go.bits .or .u64 (IntKind.u64.wrap (((ofB (fun p => dg s (i - 1 - p)) i : Nat) : Int) * 2)) (bb (dg s i)) = ((ofB (fun p => dg s (i + 1 - 1 - p)) (i + 1) : Nat) : Int) := by
  have h1 := ofB_two (fun p => dg s (i - 1 - p)) i
  have h2 : 2 ^ i ≤ 2 ^ 63 := Nat.pow_le_pow_right (by decide) (by omega)
  have h3 : 2 * ofB (fun p => dg s (i - 1 - p)) i < 2 ^ 64 := by omega
  have h4 : (if dg s i then 1 else 0) < 2 ^ 64 := by cases dg s i <;> decide
  rw [show ((ofB (fun p => dg s (i - 1 - p)) i : Nat) : Int) * 2 = ((2 * ofB (fun p => dg s (i - 1 - p)) i : Nat) : Int) by omega, wrapn h3, bb_nat, or_u h3 h4, ofB_next]
theorem parse_loop {s : ByteArray} (hs : s.size ≤ 64) (hg : good s) : ∀ (n i : Nat), s.size - i ≤ n → i ≤ s.size → Ev (fun k => bits_Parse.l0 k s ((ofB (fun p => dg s (i - 1 - p)) i : Nat) : Int) (s.size : Int) (i : Int)) ((val s : Int), (s.size : Int), 0) := by
  have fin : ∀ i : Nat, i = s.size → Ev (fun k => bits_Parse.l0 k s ((ofB (fun p => dg s (i - 1 - p)) i : Nat) : Int) (s.size : Int) (i : Int)) ((val s : Int), (s.size : Int), 0) := by
    intro i hi
    subst hi
    refine Ev.step (f := fun _ => some ((val s : Int), (s.size : Int), 0)) (fun k => ?_) (Ev.now _)
    simp only [bits_Parse.l0]
    rw [if_neg (by omega)]
    rfl
  intro n
  induction n with
  | zero => intro i h1 h2; exact fin i (by omega)
  | succ n ih =>
    intro i h1 h2
    by_cases hi : i < s.size
    · refine Ev.step (fun k => ?_) (ih (i + 1) (by omega) (by omega))
      have hd := hg i hi
      simp only [bits_Parse.l0]
      rw [if_pos (by omega), if_pos (by omega), if_pos (by omega), dg_bb hd, shift_in (by omega), w1n hi (by omega)]
      rcases hd with h | h
      · rw [if_pos h]
      · rw [if_neg (by omega), if_pos h]
    · exact fin i (by omega)
theorem parse_bad {s : ByteArray} {b : Nat} (hb : b < s.size) (hs : s.size ≤ 64) (h8 : bt s (b : Int) ≠ 48) (h9 : bt s (b : Int) ≠ 49) : ∀ (n i : Nat) (x : Int), b - i ≤ n → i ≤ b → Ev (fun k => bits_Parse.l0 k s x (s.size : Int) (i : Int)) (0, 0, 22) := by
  have now : ∀ (i : Nat) (x : Int), i ≤ b → bt s (i : Int) ≠ 48 → bt s (i : Int) ≠ 49 → Ev (fun k => bits_Parse.l0 k s x (s.size : Int) (i : Int)) (0, 0, 22) := by
    intro i x hi h1 h2
    refine Ev.step (f := fun _ => some (0, 0, 22)) (fun k => ?_) (Ev.now _)
    simp only [bits_Parse.l0]
    rw [if_pos (by omega), if_pos (by omega), if_pos (by omega), if_neg h1, if_neg h2]
  intro n
  induction n with
  | zero =>
    intro i x h1 h2
    obtain rfl : i = b := by omega
    exact now i x h2 h8 h9
  | succ n ih =>
    intro i x h1 h2
    by_cases hi : i < b
    · by_cases c8 : bt s (i : Int) = 48
      · refine Ev.step (fun k => ?_) (ih (i + 1) (Go.bits .or .u64 (IntKind.u64.wrap (x * 2)) ((bt s (i : Int) - 48) % 256)) (by omega) (by omega))
        simp only [bits_Parse.l0]
        rw [if_pos (by omega), if_pos (by omega), if_pos (by omega), if_pos c8, w1n hi (by omega)]
      · by_cases c9 : bt s (i : Int) = 49
        · refine Ev.step (fun k => ?_) (ih (i + 1) (Go.bits .or .u64 (IntKind.u64.wrap (x * 2)) ((bt s (i : Int) - 48) % 256)) (by omega) (by omega))
          simp only [bits_Parse.l0]
          rw [if_pos (by omega), if_pos (by omega), if_pos (by omega), if_neg c8, if_pos c9, w1n hi (by omega)]
        · exact now i x h2 c8 c9
    · obtain rfl : i = b := by omega
      exact now i x h2 h8 h9
def part (s : ByteArray) (i : Nat) : Nat := ofB (fun p => decide (s.size - i ≤ p) && dg s (s.size - 1 - p)) s.size
theorem part_next {s : ByteArray} {i : Nat} (hi : i < s.size) : setB (part s i) (s.size - 1 - i) (dg s i) = part s (i + 1) := by
  refine Nat.eq_of_testBit_eq (fun p => ?_)
  unfold part
  rw [testBit_setB, testBit_ofB, testBit_ofB]
  by_cases h : p = s.size - 1 - i
  · rw [if_pos h, decide_eq_true (show p < s.size by omega), decide_eq_true (show s.size - (i + 1) ≤ p by omega), show s.size - 1 - p = i by omega]
    rfl
  · rw [if_neg h]
    by_cases h3 : s.size - i ≤ p
    · rw [decide_eq_true h3, decide_eq_true (show s.size - (i + 1) ≤ p by omega)]
    · rw [decide_eq_false h3, decide_eq_false (show ¬ s.size - (i + 1) ≤ p by omega)]
theorem part_zero (s : ByteArray) : part s 0 = 0 := by
  refine Nat.eq_of_testBit_eq (fun p => ?_)
  unfold part
  rw [testBit_ofB, Nat.zero_testBit]
  by_cases h : p < s.size
  · rw [decide_eq_false (show ¬ s.size - 0 ≤ p by omega)]
    simp
  · rw [decide_eq_false h]
    rfl
theorem part_all (s : ByteArray) : part s s.size = val s := by
  refine Nat.eq_of_testBit_eq (fun p => ?_)
  unfold part val
  rw [testBit_ofB, testBit_ofB, decide_eq_true (show s.size - s.size ≤ p by omega), Bool.true_and]
theorem refparse_loop {s : ByteArray} (hs : s.size ≤ 64) (hg : good s) : ∀ (n i : Nat), s.size - i ≤ n → i ≤ s.size → Ev (fun k => cubitref03_Parse.l0 k s ((part s i : Nat) : Int) (i : Int)) ((val s : Int), (s.size : Int), 0) := by
  have fin : ∀ i : Nat, i = s.size → Ev (fun k => cubitref03_Parse.l0 k s ((part s i : Nat) : Int) (i : Int)) ((val s : Int), (s.size : Int), 0) := by
    intro i hi
    subst hi
    refine Ev.step (f := fun _ => some ((val s : Int), (s.size : Int), 0)) (fun k => ?_) (Ev.now _)
    simp only [cubitref03_Parse.l0]
    rw [if_neg (by omega), part_all]
  intro n
  induction n with
  | zero => intro i h1 h2; exact fin i (by omega)
  | succ n ih =>
    intro i h1 h2
    by_cases hi : i < s.size
    · refine Ev.step (fun k => ?_) (ih (i + 1) (by omega) (by omega))
      have hd := hg i hi
      have hlt : part s i < 2 ^ 64 := ofB_lt _ _ hs
      have e1 : wrap64 ((s.size : Int) - 1) = ((s.size - 1 : Nat) : Int) := by unfold wrap64; omega
      have e2 : wrap64 (((s.size - 1 : Nat) : Int) - (i : Int)) = ((s.size - 1 - i : Nat) : Int) := by unfold wrap64; omega
      simp only [cubitref03_Parse.l0]
      rw [if_pos (by omega), if_pos (by omega), dg_bb hd, e1, e2, set_n hlt (by omega), part_next hi, w1n hi (by omega)]
      simp only [bs]
      rcases hd with h | h
      · rw [if_pos h]
      · rw [if_neg (by omega), if_pos h]
    · exact fin i (by omega)
theorem refparse_bad {s : ByteArray} {b : Nat} (hb : b < s.size) (hs : s.size ≤ 64) (h8 : bt s (b : Int) ≠ 48) (h9 : bt s (b : Int) ≠ 49) : ∀ (n i x : Nat), x < 2 ^ 64 → b - i ≤ n → i ≤ b → Ev (fun k => cubitref03_Parse.l0 k s (x : Int) (i : Int)) (0, 0, 22) := by
  have now : ∀ (i x : Nat), i ≤ b → bt s (i : Int) ≠ 48 → bt s (i : Int) ≠ 49 → Ev (fun k => cubitref03_Parse.l0 k s (x : Int) (i : Int)) (0, 0, 22) := by
    intro i x hi h1 h2
    refine Ev.step (f := fun _ => some (0, 0, 22)) (fun k => ?_) (Ev.now _)
    simp only [cubitref03_Parse.l0]
    rw [if_pos (by omega), if_pos (by omega), if_neg h1, if_neg h2]
  intro n
  induction n with
  | zero =>
    intro i x hx h1 h2
    obtain rfl : i = b := by omega
    exact now i x h2 h8 h9
  | succ n ih =>
    intro i x hx h1 h2
    by_cases hi : i < b
    · by_cases hd : bt s (i : Int) = 48 ∨ bt s (i : Int) = 49
      · refine Ev.step (fun k => ?_) (ih (i + 1) (setB x (s.size - 1 - i) (dg s i)) (setB_lt hx (by omega)) (by omega) (by omega))
        have e1 : wrap64 ((s.size : Int) - 1) = ((s.size - 1 : Nat) : Int) := by unfold wrap64; omega
        have e2 : wrap64 (((s.size - 1 : Nat) : Int) - (i : Int)) = ((s.size - 1 - i : Nat) : Int) := by unfold wrap64; omega
        simp only [cubitref03_Parse.l0]
        rw [if_pos (by omega), if_pos (by omega), dg_bb hd, e1, e2, set_n hx (by omega), w1n hi (by omega)]
        simp only [bs]
        rcases hd with h | h
        · rw [if_pos h]
        · rw [if_neg (by omega), if_pos h]
      · exact now i x h2 (fun h => hd (.inl h)) (fun h => hd (.inr h))
    · obtain rfl : i = b := by omega
      exact now i x h2 h8 h9
/-- What both Parses answer. -/
theorem parses (s : ByteArray) (hsz : s.size ≤ 140737488351232) : (s.size ≤ 64 ∧ good s ∧ Ev (fun k => bits_Parse.f k s) ((val s : Int), (s.size : Int), 0) ∧ Ev (fun k => cubitref03_Parse.f k s) ((val s : Int), (s.size : Int), 0)) ∨
    ∃ e : Int, e ≠ 0 ∧ Ev (fun k => bits_Parse.f k s) (0, 0, e) ∧ Ev (fun k => cubitref03_Parse.f k s) (0, 0, e) := by
  unfold bits_Parse.f cubitref03_Parse.f
  by_cases h : (s.size : Int) > 64
  · right
    exact ⟨1, by decide, Ev.congr (fun k => by rw [if_pos h]) (Ev.now _), Ev.congr (fun k => by rw [if_pos h]) (Ev.now _)⟩
  · have hs : s.size ≤ 64 := by omega
    by_cases hg : good s
    · left
      refine ⟨hs, hg, Ev.congr (fun k => ?_) (parse_loop hs hg s.size 0 (by omega) (by omega)), Ev.congr (fun k => ?_) (refparse_loop hs hg s.size 0 (by omega) (by omega))⟩
      · rw [if_neg h]
        rfl
      · rw [if_neg h, part_zero]
        rfl
    · right
      have : ∃ b : Nat, b < s.size ∧ bt s (b : Int) ≠ 48 ∧ bt s (b : Int) ≠ 49 := by
        refine Classical.byContradiction (fun hn => hg (fun i hi => ?_))
        refine Classical.byContradiction (fun hm => hn ⟨i, hi, fun e => hm (.inl e), fun e => hm (.inr e)⟩)
      obtain ⟨b, hb, h8, h9⟩ := this
      refine ⟨22, by decide, Ev.congr (fun k => ?_) (parse_bad hb hs h8 h9 b 0 0 (by omega) (by omega)), Ev.congr (fun k => ?_) (refparse_bad hb hs h8 h9 b 0 0 (by decide) (by omega) (by omega))⟩
      · rw [if_neg h]
        rfl
      · rw [if_neg h]
        rfl
theorem row_bt {n x i : Nat} (hi : i < n) : bt (strOfNums (row n x n)) (i : Int) = 48 + bb (x.testBit (n - 1 - i)) := by
  have hl : i < (row n x n).length := by rw [row_length]; exact hi
  have hr := row_get n x n i hl
  rw [if_pos (by omega)] at hr
  rw [bt_nums _ hl (by rw [hr]; have := bb_range (x.testBit (n - 1 - i)); omega), hr]
theorem row_size (n x : Nat) : (strOfNums (row n x n)).size = n := by rw [strOfNums_size, row_length]
theorem row_good (n x : Nat) : good (strOfNums (row n x n)) := by
  intro i hi
  rw [row_size] at hi
  rw [row_bt hi]
  cases x.testBit (n - 1 - i)
  · exact .inl rfl
  · exact .inr rfl
theorem row_val {n x : Nat} (hn : n ≤ 64) (hx : x < 2 ^ n) : val (strOfNums (row n x n)) = x := by
  have hx64 : x < 2 ^ 64 := Nat.lt_of_lt_of_le hx (Nat.pow_le_pow_right (by decide) hn)
  refine word_ext (ofB_lt _ _ (by rw [row_size]; exact hn)) hx64 (fun p hp => ?_)
  unfold val
  rw [testBit_ofB, row_size]
  by_cases h : p < n
  · rw [decide_eq_true h, Bool.true_and]
    unfold dg
    rw [row_bt (by omega), show n - 1 - (n - 1 - p) = p by omega]
    cases x.testBit p <;> decide
  · rw [decide_eq_false h, Bool.false_and]
    exact (Nat.testBit_lt_two_pow (Nat.lt_of_lt_of_le hx (Nat.pow_le_pow_right (by decide) (by omega)))).symm
theorem val_row {s : ByteArray} (hg : good s) : strOfNums (row s.size (val s) s.size) = s := by
  refine eq_of_bt (by rw [row_size]) (fun j hj => ?_)
  rw [row_size] at hj
  rw [row_bt hj]
  unfold val
  rw [testBit_ofB, decide_eq_true (by omega), Bool.true_and, show s.size - 1 - (s.size - 1 - j) = j by omega]
  unfold dg
  rcases hg j hj with h | h
  · rw [h]; rfl
  · rw [h]; rfl
theorem parse_row {n x : Nat} (hn : n ≤ 64) (hx : x < 2 ^ n) : Ev (fun k => bits_Parse.f k (strOfNums (row n x n))) ((x : Int), (n : Int), 0) := by
  have hs : (strOfNums (row n x n)).size ≤ 64 := by rw [row_size]; exact hn
  have := parse_loop hs (row_good n x) _ 0 (Nat.le_refl _) (Nat.zero_le _)
  rw [row_val hn hx, row_size] at this
  unfold bits_Parse.f
  refine Ev.congr (fun k => ?_) this
  rw [row_size, if_neg (by omega)]
  rfl
/-- Back: what was parsed is the text again. -/
theorem back_ev {s : ByteArray} (hs : s.size ≤ 64) (hg : good s) : Ev (fun k => (bits_Text.f k (val s : Int) (s.size : Int)).bind fun bt214 => (if bt214.1.toList = s.toList then (some (bt214.2 == 0)) else (some false))) true := by
  have h2 := ofB_two (fun p => dg s (s.size - 1 - p)) s.size
  have ht := text_ev (x := val s) (ofB_lt _ _ hs) hs
  rw [decide_eq_false (show ¬ 2 ^ s.size ≤ val s by unfold val; omega)] at ht
  refine Ev.bind ht ?_
  simp only [Bool.false_eq_true, if_false, val_row hg, if_true]
  exact Ev.now _
theorem BitsTexts : cubitlaw03_BitsTexts.Pure := by
  intro a0 n s h0 h1 hsz
  refine Ev.rounds (r := true) ?_
  obtain ⟨x, hx, rfl⟩ := word h0
  -- what Text answers
  have ht : ∃ (t : ByteArray) (e : Int), Ev (fun k => cubitref03_Text.f k (x : Int) n) (t, e) ∧ Ev (fun k => bits_Text.f k (x : Int) n) (t, e) ∧ (e = 0 → Ev (fun k => bits_Parse.f k t) ((x : Int), n, 0)) := by
    by_cases hn : n < 0 ∨ n > 64
    · obtain ⟨r, p⟩ := texts_bad (x := x) hn
      exact ⟨_, _, r, p, fun h => by cases h⟩
    · obtain ⟨m, rfl⟩ : ∃ m : Nat, n = (m : Int) := ⟨n.toNat, by omega⟩
      have hm : m ≤ 64 := by omega
      have e1 := reftext_ev hx hm
      have e2 := text_ev hx hm
      by_cases hle : 2 ^ m ≤ x
      · rw [decide_eq_true hle] at e1 e2
        exact ⟨_, _, e1, e2, fun h => by cases h⟩
      · rw [decide_eq_false hle] at e1 e2
        exact ⟨_, _, e1, e2, fun _ => parse_row hm (by omega)⟩
  obtain ⟨t, e, t1, t2, t3⟩ := ht
  have hp : ∃ (z l g : Int), Ev (fun k => cubitref03_Parse.f k s) (z, l, g) ∧ Ev (fun k => bits_Parse.f k s) (z, l, g) ∧ (g = 0 → Ev (fun k => (bits_Text.f k z l).bind fun bt214 => (if bt214.1.toList = s.toList then (some (bt214.2 == 0)) else (some false))) true) := by
    rcases parses s hsz with ⟨h1, h2, h3, h4⟩ | ⟨g, h1, h2, h3⟩
    · exact ⟨_, _, _, h4, h3, fun _ => back_ev h1 h2⟩
    · exact ⟨_, _, _, h3, h2, fun h => absurd h h1⟩
  obtain ⟨z, l, g, p1, p2, p3⟩ := hp
  have last : Ev (fun k => if g = 0 then ((bits_Text.f k z l).bind fun bt214 => (if bt214.1.toList = s.toList then (some (bt214.2 == 0)) else (some false))) else (some true)) true := by
    by_cases hg : g = 0
    · exact Ev.congr (fun k => by rw [if_pos hg]) (p3 hg)
    · exact Ev.congr (fun k => by rw [if_neg hg]) (Ev.now true)
  unfold cubitlaw03_BitsTexts.f
  refine Ev.bind awake_ev ?_
  simp only [if_true]
  refine Ev.bind t1 ?_
  refine Ev.bind t2 ?_
  refine Ev.bind p1 ?_
  refine Ev.bind p2 ?_
  simp only [if_true, bne_self_eq_false]
  by_cases he : e = 0
  · refine Ev.step (f := fun k => (bits_Parse.f k t).bind fun bt209 => (if bt209.1 = (x : Int) then (if bt209.2.1 = n then (cubitlaw03_BitsTexts.j1 k s z l g (bt209.2.2 != 0)) else (cubitlaw03_BitsTexts.j1 k s z l g true)) else (cubitlaw03_BitsTexts.j1 k s z l g true))) (fun k => ?_) ?_
    · simp only [cubitlaw03_BitsTexts.j0, Bool.false_eq_true, if_false, if_pos he]
    · refine Ev.bind (t3 he) ?_
      simp only [if_true, bne_self_eq_false]
      refine Ev.step (fun k => ?_) last
      simp only [cubitlaw03_BitsTexts.j1, Bool.false_eq_true, if_false]
  · refine Ev.step (fun k => ?_) last
    simp only [cubitlaw03_BitsTexts.j0, Bool.false_eq_true, if_false, if_neg he]
end Go.Proofs.YtoebcbhadcpcoaaDoor.Pure
