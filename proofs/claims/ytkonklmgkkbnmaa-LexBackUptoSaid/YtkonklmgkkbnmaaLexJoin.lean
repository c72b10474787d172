/- Names, numbers, signs and joined texts: the program's and the document's IsName and Join come to the same plain functions. -/
import Derived.Test.YtkonklmgkkbnmaaPAx13
import Derived.Test.YtkonklmgkkbnmaaPAx10
import Derived.Test.YtkonklmgkkbnmaaLexRef
namespace Go.Proofs.Ytkonklmgkkbnmaa.Pure
open Go.RowKit Go.Proofs.Ytkonklmgkkbnmaa.PA Go.Proofs.Ytkonklmgkkbnmaa.B Go.Proofs.YtkonklmgkkbnmaaW.PrintWords Go.Proofs.YtkonklmgkkbnmaaW.PrintLast Go.Proofs.YtkonklmgkkbnmaaW.PrintMore
set_option linter.unusedVariables false
set_option linter.unusedSimpArgs false
theorem bs {α β : Type} (a : α) (f : α → Option β) : (some a).bind f = f a := by rw [Option.bind_some]
theorem empty_iff (s : ByteArray) : s.toList = [] ↔ s.size = 0 := by
  rw [Lib.toList_data]
  have : s.size = s.data.toList.length := rfl
  rw [this, List.length_eq_zero_iff]
def isNameB (s : ByteArray) : Bool := decide (0 < s.size) && (letterB (bt s 0) && decide (runTo nameB s 0 = s.size))
def numB (s : ByteArray) : Bool := decide (0 < s.size) && decide (runTo digitB s 0 = s.size)
def sigB (s : ByteArray) : Bool := decide (s.size = 1) && signB (bt s 0)
def rightB (t : S31) : Bool := if t.f0 = 1 then isNameB t.f1 else if t.f0 = 2 then numB t.f1 else if t.f0 = 3 then sigB t.f1 else false
theorem isName_ev {s : ByteArray} (hs : s.size ≤ 140737488351232) : Ev (fun k => lex_IsName.f k s) (isNameB s) := by
  unfold lex_IsName.f isNameB
  by_cases h0 : s.size = 0
  · refine Ev.congr (f := fun _ => some _) (fun k => ?_) (Ev.now _)
    rw [if_pos ((empty_iff s).mpr h0), decide_eq_false (by omega)]
    rfl
  · cases hl : letterB (bt s 0) with
    | false =>
      refine Ev.congr (f := fun _ => some _) (fun k => ?_) (Ev.now _)
      rw [if_neg (fun h => h0 ((empty_iff s).mp h)), if_pos (by omega), letter_f, bs, hl, if_neg (by decide), Bool.false_and, Bool.and_false]
    | true =>
      refine Ev.congr (f := fun k => (lex_run.f k s ((0 : Nat) : Int) 24).bind fun t => some (t == (s.size : Int))) (fun k => ?_) (Ev.bind (run24 hs (Nat.zero_le _)) (Ev.congr (f := fun _ => some _) (fun k => ?_) (Ev.now _)))
      · rw [if_neg (fun h => h0 ((empty_iff s).mp h)), if_pos (by omega), letter_f, bs, hl, if_pos rfl]
        rfl
      · rw [decide_eq_true (show 0 < s.size by omega), Bool.true_and, Bool.true_and]
        congr 1
        rw [Bool.eq_iff_iff, beq_iff_eq, decide_eq_true_iff]
        omega
theorem refname_loop {s : ByteArray} (hs : s.size ≤ 140737488351232) : ∀ (d i : Nat), s.size - i ≤ d → i ≤ s.size → Ev (fun k => cubitref09_IsName.l0 k s (i : Int)) (decide (runTo nameB s i = s.size))
  | d, i, hd, hi => by
    by_cases hlt : i < s.size
    · obtain ⟨d, rfl⟩ : ∃ e, d = e + 1 := ⟨d - 1, by omega⟩
      cases hn : nameB (bt s (i : Int)) with
      | true =>
        rw [runTo_step hlt hn]
        refine Ev.step (fun k => ?_) (refname_loop hs d (i + 1) (by omega) (by omega))
        rw [cubitref09_IsName.l0, if_pos (by omega), if_pos (by omega), rletter_f, bs, w1 hlt hs]
        unfold nameB at hn
        cases hl : letterB (bt s (i : Int)) with
        | true => rw [if_pos rfl]
        | false =>
          rw [hl, Bool.false_or] at hn
          rw [if_neg (by decide), rdigit_f, bs, hn, if_pos rfl]
      | false =>
        rw [runTo_stop (fun _ => hn), decide_eq_false (by omega)]
        refine Ev.step (f := fun _ => some false) (fun k => ?_) (Ev.now _)
        unfold nameB at hn
        rw [Bool.or_eq_false_iff] at hn
        rw [cubitref09_IsName.l0, if_pos (by omega), if_pos (by omega), rletter_f, bs, hn.1, if_neg (by decide), rdigit_f, bs, hn.2, if_neg (by decide)]
    · obtain rfl : i = s.size := by omega
      rw [runTo_stop (fun h => absurd h hlt), decide_eq_true rfl]
      refine Ev.step (f := fun _ => some true) (fun k => ?_) (Ev.now _)
      rw [cubitref09_IsName.l0, if_neg (by omega)]
theorem letter_digit {b : Int} (h : letterB b = true) : digitB b = false := by
  unfold letterB at h
  unfold digitB
  simp only [Bool.or_eq_true, Bool.and_eq_true, decide_eq_true_eq, beq_iff_eq] at h
  rw [Bool.and_eq_false_iff]
  right
  exact decide_eq_false (by omega)
theorem refname_ev {s : ByteArray} (hs : s.size ≤ 140737488351232) : Ev (fun k => cubitref09_IsName.f k s) (isNameB s) := by
  have no : Ev (fun k => cubitref09_IsName.j0 k s true) false := by
    refine Ev.step (f := fun _ => some false) (fun k => ?_) (Ev.now _)
    rw [cubitref09_IsName.j0, if_pos rfl]
  unfold cubitref09_IsName.f isNameB
  by_cases h0 : s.size = 0
  · rw [decide_eq_false (by omega), Bool.false_and]
    refine Ev.congr (fun k => ?_) no
    rw [if_pos ((empty_iff s).mpr h0)]
  · rw [decide_eq_true (show 0 < s.size by omega), Bool.true_and]
    cases hd : digitB (bt s 0) with
    | true =>
      have hl : letterB (bt s 0) = false := by
        cases hl : letterB (bt s 0) with
        | false => rfl
        | true => rw [letter_digit hl] at hd; cases hd
      rw [hl, Bool.false_and]
      refine Ev.congr (fun k => ?_) no
      rw [if_neg (fun h => h0 ((empty_iff s).mp h)), if_pos (by omega), rdigit_f, bs, hd]
    | false =>
      have e : (letterB (bt s 0) && decide (runTo nameB s 0 = s.size)) = decide (runTo nameB s 0 = s.size) := by
        cases hl : letterB (bt s 0) with
        | true => rfl
        | false =>
          rw [Bool.false_and, runTo_stop (fun _ => by
            show nameB (bt s ((0 : Nat) : Int)) = false
            unfold nameB
            rw [show ((0 : Nat) : Int) = 0 from rfl, hl, hd]; rfl), decide_eq_false (by omega)]
      rw [e]
      refine Ev.congr (f := fun k => cubitref09_IsName.j0 k s false) (fun k => ?_) (Ev.step (fun k => ?_) (refname_loop hs _ 0 (Nat.le_refl _) (Nat.zero_le _)))
      · rw [if_neg (fun h => h0 ((empty_iff s).mp h)), if_pos (by omega), rdigit_f, bs, hd]
      · rw [cubitref09_IsName.j0, if_neg (by decide)]
        rfl
theorem refnum_loop {s : ByteArray} (hs : s.size ≤ 140737488351232) (h0 : s.size ≠ 0) : ∀ (d i : Nat), s.size - i ≤ d → i ≤ s.size → Ev (fun k => cubitref09_IsNumber.l0 k s (i : Int)) (decide (runTo digitB s i = s.size))
  | d, i, hd, hi => by
    by_cases hlt : i < s.size
    · obtain ⟨d, rfl⟩ : ∃ e, d = e + 1 := ⟨d - 1, by omega⟩
      cases hn : digitB (bt s (i : Int)) with
      | true =>
        rw [runTo_step hlt hn]
        refine Ev.step (fun k => ?_) (refnum_loop hs h0 d (i + 1) (by omega) (by omega))
        rw [cubitref09_IsNumber.l0, if_pos (by omega), if_pos (by omega), rdigit_f, bs, w1 hlt hs, hn, if_pos rfl]
      | false =>
        rw [runTo_stop (fun _ => hn), decide_eq_false (by omega)]
        refine Ev.step (f := fun _ => some false) (fun k => ?_) (Ev.now _)
        rw [cubitref09_IsNumber.l0, if_pos (by omega), if_pos (by omega), rdigit_f, bs, hn, if_neg (by decide)]
    · obtain rfl : i = s.size := by omega
      rw [runTo_stop (fun h => absurd h hlt), decide_eq_true rfl]
      refine Ev.step (f := fun _ => some true) (fun k => ?_) (Ev.now _)
      rw [cubitref09_IsNumber.l0, if_neg (by omega)]
      congr 1
      rw [bne_iff_ne]
      exact fun h => h0 ((empty_iff s).mp h)
theorem refnum_ev {s : ByteArray} (hs : s.size ≤ 140737488351232) : Ev (fun k => cubitref09_IsNumber.f k s) (numB s) := by
  unfold cubitref09_IsNumber.f numB
  by_cases h0 : s.size = 0
  · rw [decide_eq_false (by omega), Bool.false_and]
    refine Ev.step (f := fun _ => some false) (fun k => ?_) (Ev.now _)
    rw [cubitref09_IsNumber.l0, if_neg (by omega), (empty_iff s).mpr h0]
    rfl
  · rw [decide_eq_true (show 0 < s.size by omega), Bool.true_and]
    exact refnum_loop hs h0 _ 0 (Nat.le_refl _) (Nat.zero_le _)
theorem contains_one {s : ByteArray} (h : s.size = 1) : strings_Contains.f (⟨#[123, 125, 91, 93, 59, 44]⟩ : ByteArray) s = some (signB (bt s 0)) := by
  obtain ⟨⟨l⟩⟩ := s
  have hl : l.length = 1 := h
  match l, hl with
  | [c], _ =>
    have hb : bt ⟨⟨[c]⟩⟩ 0 = (c.toNat : Int) := by
      unfold bt
      rw [dif_pos (show (0 : Int).toNat < (⟨⟨[c]⟩⟩ : ByteArray).size from Nat.one_pos)]
      rfl
    show some (decide (0 ≤ Lib.indexByte (⟨#[123, 125, 91, 93, 59, 44]⟩ : ByteArray).data.toList c)) = _
    rw [hb]
    have := sign_all ⟨c.toNat, c.toNat_lt⟩
    have e : ((⟨c.toNat, c.toNat_lt⟩ : Fin 256).val : Int).toNat.toUInt8 = c := by
      show (c.toNat : Int).toNat.toUInt8 = c
      rw [Int.toNat_natCast]
      exact UInt8.ofNat_toNat
    rw [e] at this
    congr 1
    have this : decide (Lib.indexByte [123, 125, 91, 93, 59, 44] c < 0) = !signB (c.toNat : Int) := this
    show decide (0 ≤ Lib.indexByte [123, 125, 91, 93, 59, 44] c) = signB (c.toNat : Int)
    by_cases hx : Lib.indexByte [123, 125, 91, 93, 59, 44] c < 0
    · rw [decide_eq_true hx] at this
      rw [decide_eq_false (by omega)]
      cases hsg : signB (c.toNat : Int) with
      | false => rfl
      | true => rw [hsg] at this; cases this
    · rw [decide_eq_false hx] at this
      rw [decide_eq_true (by omega)]
      cases hsg : signB (c.toNat : Int) with
      | true => rfl
      | false => rw [hsg] at this; cases this
theorem right_ev (t : S31) (hs : t.f1.size ≤ 140737488351232) : Ev (fun k => lex_right.f k t.f0 t.f1 t.f2) (rightB t) := by
  unfold lex_right.f rightB
  by_cases h1 : t.f0 = 1
  · simp only [if_pos h1]
    exact Ev.bind (isName_ev hs) (Ev.now _)
  · simp only [if_neg h1]
    by_cases h2 : t.f0 = 2
    · simp only [if_pos h2]
      unfold numB
      by_cases h0 : t.f1.size = 0
      · refine Ev.congr (f := fun _ => some _) (fun k => ?_) (Ev.now _)
        rw [if_pos ((empty_iff _).mpr h0), decide_eq_false (by omega)]
        rfl
      · rw [decide_eq_true (show 0 < t.f1.size by omega), Bool.true_and]
        simp only [if_neg (fun h => h0 ((empty_iff t.f1).mp h))]
        refine Ev.bind (show Ev (fun k => lex_run.f k t.f1 0 25) _ from run25 (i := 0) hs (Nat.zero_le _)) (Ev.congr (f := fun _ => some _) (fun k => ?_) (Ev.now _))
        congr 1
        rw [Bool.eq_iff_iff, beq_iff_eq, decide_eq_true_iff]
        omega
    · simp only [if_neg h2]
      by_cases h3 : t.f0 = 3
      · simp only [if_pos h3]
        unfold sigB
        by_cases h0 : t.f1.size = 1
        · refine Ev.congr (f := fun _ => some _) (fun k => ?_) (Ev.now _)
          rw [if_pos (by omega), contains_one h0, bs, decide_eq_true h0, Bool.true_and]
        · refine Ev.congr (f := fun _ => some _) (fun k => ?_) (Ev.now _)
          rw [if_neg (by omega), decide_eq_false h0, Bool.false_and]
      · simp only [if_neg h3]
        exact Ev.now _
theorem refright_ev (t : S31) (hs : t.f1.size ≤ 140737488351232) : Ev (fun k => cubitref09_right.f k t.f0 t.f1 t.f2) (rightB t) := by
  unfold cubitref09_right.f rightB
  by_cases h1 : t.f0 = 1
  · simp only [if_pos h1]
    exact Ev.bind (refname_ev hs) (Ev.now _)
  · simp only [if_neg h1]
    by_cases h2 : t.f0 = 2
    · simp only [if_pos h2]
      exact Ev.bind (refnum_ev hs) (Ev.now _)
    · simp only [if_neg h2]
      by_cases h3 : t.f0 = 3
      · simp only [if_pos h3]
        unfold sigB
        by_cases h0 : t.f1.size = 1
        · refine Ev.congr (f := fun _ => some _) (fun k => ?_) (Ev.now _)
          rw [if_pos (by omega), if_pos (by omega), rsign_f, bs, decide_eq_true h0, Bool.true_and]
        · refine Ev.congr (f := fun _ => some _) (fun k => ?_) (Ev.now _)
          rw [if_neg (by omega), decide_eq_false h0, Bool.false_and]
      · simp only [if_neg h3]
        exact Ev.now _
/-! Joined texts. -/
def szs (l : List S31) : Nat := (l.map fun t => t.f1.size).sum
def texts (l : List S31) : List (List UInt8) := l.map fun t => t.f1.data.toList
def joinS (l : List S31) : ByteArray := ⟨(Lib.join (texts l) [32]).toArray⟩
def joinR (l : List S31) : ByteArray × Int := if l.all rightB = true then (if l.length - 1 + szs l > 65536 then ((⟨#[]⟩ : ByteArray), 1) else (joinS l, 0)) else ((⟨#[]⟩ : ByteArray), 90)
theorem szs_app (a b : List S31) : szs (a ++ b) = szs a + szs b := by simp [szs, List.map_append, List.sum_append]
theorem take_snoc' (l : List S31) {j : Nat} (h : j < l.length) : l.take (j + 1) = l.take j ++ [l[j]] := List.take_succ_eq_append_getElem h
theorem szs_take (l : List S31) {j : Nat} (h : j < l.length) : szs (l.take (j + 1)) = szs (l.take j) + l[j].f1.size := by
  rw [take_snoc' l h, szs_app]
  simp [szs]
theorem szs_le (l : List S31) (j : Nat) : szs (l.take j) ≤ szs l := by
  conv => rhs; rw [← List.take_append_drop j l]
  rw [szs_app]
  omega
theorem rd_at (l : List S31) {j : Nat} (h : j < l.length) : rd_T31 l (j : Int) = l[j] := by
  unfold rd_T31
  rw [Int.toNat_natCast, List.getD_eq_getElem?_getD, List.getElem?_eq_getElem h]
  rfl
theorem all_take (l : List S31) {j : Nat} (h : j < l.length) : (l.take (j + 1)).all rightB = ((l.take j).all rightB && rightB l[j]) := by
  rw [take_snoc' l h, List.all_append]
  simp
theorem all_of (l : List S31) {j : Nat} (h : j < l.length) (hr : rightB l[j] = false) : l.all rightB = false := by
  cases ha : l.all rightB with
  | false => rfl
  | true => rw [List.all_eq_true.mp ha _ (List.getElem_mem h)] at hr; cases hr
theorem lens_texts (l : List S31) : Lib.lens (texts l) = szs l := by
  induction l with
  | nil => rfl
  | cons t l ih =>
    show t.f1.data.toList.length + Lib.lens (texts l) = _
    rw [ih]
    simp [szs]
theorem join_len (l : List S31) : (Lib.join (texts l) [32]).length ≤ l.length + szs l := by
  cases l with
  | nil => simp [texts, Lib.join_nil]
  | cons t l =>
    have := Lib.join_length t.f1.data.toList (texts l) [32]
    have h2 := lens_texts (t :: l)
    show (Lib.join (t.f1.data.toList :: texts l) [32]).length ≤ _
    rw [this]
    rw [show Lib.lens (t.f1.data.toList :: texts l) = szs (t :: l) from h2]
    simp [texts]
theorem w64s {a : Int} (h : 0 ≤ a ∧ a ≤ 10000000) : wrap64 a = a := by
  unfold wrap64
  omega
theorem addn (a b : Nat) (h : a + b ≤ 10000000) : wrap64 ((a : Int) + (b : Int)) = ((a + b : Nat) : Int) := by
  rw [w64s (by omega)]
  omega
theorem join_ev (l : List S31) (hl : l.length ≤ 2000000) (hz : szs l ≤ 2000000) (hb : ∀ t ∈ l, t.f1.size ≤ 140737488351232) : ∀ (d j : Nat), j + d = l.length → (l.take j).all rightB = true →
    Ev (fun k => lex_Join.l0 k ((l.length - 1 + szs (l.take j) : Nat) : Int) ((l.take j).map (·.f1)) l (l.length : Int) (j : Int)) (joinR l)
  | 0, j, hj, ha => by
    obtain rfl : j = l.length := by omega
    rw [List.take_length] at ha ⊢
    unfold joinR
    rw [if_pos ha]
    refine Ev.step (f := fun _ => some _) (fun k => ?_) (Ev.now _)
    rw [lex_Join.l0, if_neg (by omega)]
    by_cases hn : l.length - 1 + szs l > 65536
    · rw [if_pos hn, if_pos (by omega)]
    · rw [if_neg hn, if_neg (by omega)]
      have hj := join_len l
      have e : (l.map (·.f1)).map (·.data.toList) = texts l := by rw [List.map_map]; rfl
      unfold strings_Join.f
      rw [e]
      rw [if_pos ⟨by show (Lib.join (texts l) [32]).length ≤ _; omega, by rw [List.length_map]; omega⟩, bs]
      rfl
  | d + 1, j, hj, ha => by
    have hlt : j < l.length := by omega
    have hs := szs_take l hlt
    have hle := szs_le l (j + 1)
    obtain ⟨K1, h1⟩ := right_ev l[j] (hb _ (List.getElem_mem hlt))
    cases hr : rightB l[j] with
    | true =>
      obtain ⟨K2, h2⟩ := join_ev l hl hz hb d (j + 1) (by omega) (by rw [all_take l hlt, ha, hr]; rfl)
      refine ⟨K1 + K2 + 1, fun k hk => ?_⟩
      obtain ⟨k, rfl⟩ : ∃ m, k = m + 1 := ⟨k - 1, by omega⟩
      show lex_Join.l0 (k + 1) _ _ _ _ _ = _
      have h1 : lex_right.f k l[j].f0 l[j].f1 l[j].f2 = some _ := h1 k (by omega)
      rw [lex_Join.l0, if_pos (by omega), if_pos (by omega), if_pos (by omega), rd_at l hlt, h1, bs, hr, if_pos rfl, if_pos (by rw [List.length_map, List.length_take]; omega)]
      have e1 : wrap64 (((l.length - 1 + szs (l.take j) : Nat) : Int) + (l[j].f1.size : Int)) = ((l.length - 1 + szs (l.take (j + 1)) : Nat) : Int) := by
        rw [addn _ _ (by omega), hs]
        congr 1
        omega
      have e2 : wrap64 ((j : Int) + 1) = ((j + 1 : Nat) : Int) := w1 hlt (by omega)
      have e3 : (l.take j).map (·.f1) ++ [l[j].f1] = (l.take (j + 1)).map (·.f1) := by rw [take_snoc' l hlt, List.map_append]; rfl
      rw [e1, e2, e3]
      exact h2 k (by omega)
    | false =>
      refine ⟨K1 + 1, fun k hk => ?_⟩
      obtain ⟨k, rfl⟩ : ∃ m, k = m + 1 := ⟨k - 1, by omega⟩
      show lex_Join.l0 (k + 1) _ _ _ _ _ = _
      have h1 : lex_right.f k l[j].f0 l[j].f1 l[j].f2 = some _ := h1 k (by omega)
      rw [lex_Join.l0, if_pos (by omega), if_pos (by omega), if_pos (by omega), rd_at l hlt, h1, bs, hr, if_neg (by decide)]
      unfold joinR
      rw [all_of l hlt hr, if_neg (by decide)]
theorem prog_join (l : List S31) (hl : l.length ≤ 2000000) (hz : szs l ≤ 2000000) (hb : ∀ t ∈ l, t.f1.size ≤ 140737488351232) : Ev (fun k => lex_Join.f k l) (joinR l) := by
  unfold lex_Join.f
  refine Ev.congr (fun k => ?_) (join_ev l hl hz hb l.length 0 (by omega) (by simp))
  rw [if_pos (by omega), if_pos (by omega)]
  have e : mx (wrap64 ((l.length : Int) - 1)) 0 = ((l.length - 1 + szs (l.take 0) : Nat) : Int) := by
    have : szs (l.take 0) = 0 := by simp [szs]
    rw [this]
    unfold mx wrap64
    omega
  rw [e]
  rfl
/-! The document's. -/
def nums' (l : List UInt8) : List Int := l.map fun b => ((b.toNat : Nat) : Int)
theorem bytesOf_nums (s : ByteArray) : bytesOf s = nums' s.data.toList := rfl
theorem str_nums' (l : List UInt8) : strOfNums (nums' l) = ⟨l.toArray⟩ := by
  unfold strOfNums nums'
  congr 2
  rw [List.map_map]
  conv => rhs; rw [← List.map_id l]
  refine List.map_congr_left (fun b _ => ?_)
  show UInt8.ofNat ((b.toNat : Int)).toNat = b
  rw [Int.toNat_natCast]
  exact UInt8.ofNat_toNat
theorem join_step (l : List S31) {j : Nat} (h : j < l.length) : Lib.join (texts (l.take (j + 1))) [32] = Lib.join (texts (l.take j)) [32] ++ (if j = 0 then [] else [32]) ++ l[j].f1.data.toList := by
  cases l with
  | nil => simp at h
  | cons t r =>
    cases j with
    | zero => simp [texts, Lib.join_one, Lib.join_nil]
    | succ j =>
      have hj : j < r.length := by simpa using h
      have e : ∀ m, texts ((t :: r).take (m + 1)) = t.f1.data.toList :: (texts r).take m := by
        intro m
        simp [texts, List.map_take]
      rw [e (j + 1), e j, Lib.join_cons, Lib.join_cons, Lib.joinTail_take_succ [32] (texts r) j (r[j].f1.data.toList) (by simp [texts, hj])]
      simp
theorem refjoin_l1 (l : List S31) (hl : l.length ≤ 2000000) (hz : szs l ≤ 2000000) : ∀ (d j : Nat), j + d = l.length →
    Ev (fun k => cubitref09_Join.l1 k l (nums' (Lib.join (texts (l.take j)) [32])) (j : Int)) (joinS l, 0)
  | 0, j, hj => by
    obtain rfl : j = l.length := by omega
    rw [List.take_length]
    refine Ev.step (f := fun _ => some _) (fun k => ?_) (Ev.now _)
    rw [cubitref09_Join.l1, if_neg (by omega), str_nums']
    rfl
  | d + 1, j, hj => by
    have hlt : j < l.length := by omega
    have ih := refjoin_l1 l hl hz d (j + 1) (by omega)
    rw [join_step l hlt] at ih
    have hs := szs_take l hlt
    have hle := szs_le l (j + 1)
    have hjl := join_len (l.take j)
    rw [List.length_take, Nat.min_eq_left (by omega)] at hjl
    have hnl : (nums' (Lib.join (texts (l.take j)) [32])).length = (Lib.join (texts (l.take j)) [32]).length := List.length_map _
    refine Ev.step (fun k => ?_) ih
    have e2 : wrap64 ((j : Int) + 1) = ((j + 1 : Nat) : Int) := w1 hlt (by omega)
    rw [cubitref09_Join.l1, if_pos (by omega), rd_at l hlt, e2]
    by_cases h0 : j = 0
    · rw [if_neg (by omega), if_pos (by omega), if_pos (by omega), if_pos h0, bytesOf_nums]
      congr 1
      simp [nums']
    · rw [if_pos (by omega), if_pos (by omega), bs, if_pos (by omega), if_pos (by rw [List.length_append, hnl, List.length_singleton]; omega), if_neg h0, bytesOf_nums]
      congr 1
      simp [nums']
def szs1 (l : List S31) : Nat := l.length + szs l
theorem num3 {a b c x : Nat} (ha : a ≤ 2000000) (hx : x = b + c) (h : x ≤ 2000000) : a + b + (c + 1) ≤ 10000000 ∧ c + 1 ≤ 10000000 ∧ a + b + (c + 1) = a + 1 + x := by omega
theorem refjoin_l0 (l : List S31) (hl : l.length ≤ 2000000) (hz : szs l ≤ 2000000) (hb : ∀ t ∈ l, t.f1.size ≤ 140737488351232) : ∀ (d j : Nat), j + d = l.length → (l.take j).all rightB = true →
    Ev (fun k => cubitref09_Join.l0 k l ((j + szs (l.take j) : Nat) : Int) (j : Int)) (joinR l)
  | 0, j, hj, ha => by
    obtain rfl : j = l.length := by omega
    rw [List.take_length] at ha ⊢
    unfold joinR
    rw [if_pos ha]
    have hz0 : l.length = 0 → szs l = 0 := by
      intro h
      rw [List.length_eq_zero_iff.mp h]
      rfl
    by_cases hn : l.length - 1 + szs l > 65536
    · rw [if_pos hn]
      refine Ev.step (f := fun _ => some _) (fun k => ?_) (Ev.now _)
      rw [cubitref09_Join.l0, if_neg (by omega), if_pos (by omega)]
    · rw [if_neg hn]
      refine Ev.step (fun k => ?_) (refjoin_l1 l hl hz l.length 0 (by omega))
      rw [cubitref09_Join.l0, if_neg (by omega), if_neg (by omega)]
      rfl
  | d + 1, j, hj, ha => by
    have hlt : j < l.length := by omega
    have hs := szs_take l hlt
    have hle := szs_le l (j + 1)
    obtain ⟨K1, h1⟩ := refright_ev (l[j]'hlt) (hb _ (List.getElem_mem hlt))
    cases hr : rightB (l[j]'hlt) with
    | true =>
      obtain ⟨K2, h2⟩ := refjoin_l0 l hl hz hb d (j + 1) (by omega) (by rw [all_take l hlt, ha, hr]; rfl)
      refine ⟨K1 + K2 + 1, fun k hk => ?_⟩
      obtain ⟨k, rfl⟩ : ∃ m, k = m + 1 := ⟨k - 1, by omega⟩
      show cubitref09_Join.l0 (k + 1) _ _ _ = _
      have h1 : cubitref09_right.f k (l[j]'hlt).f0 (l[j]'hlt).f1 (l[j]'hlt).f2 = some _ := h1 k (by omega)
      rw [cubitref09_Join.l0, if_pos (by omega), if_pos (by omega), rd_at l hlt, h1, bs, hr, if_pos rfl]
      have hk2 : K2 ≤ k := by omega
      have e2 : wrap64 ((j : Int) + 1) = ((j + 1 : Nat) : Int) := w1 hlt (by omega)
      obtain ⟨b1, b0, b2⟩ := num3 (Nat.le_trans (Nat.le_of_lt hlt) hl) hs (Nat.le_trans hle hz)
      have e1 : wrap64 (((j + szs (l.take j) : Nat) : Int) + (((l[j]'hlt).f1.size + 1 : Nat) : Int)) = ((j + 1 + szs (l.take (j + 1)) : Nat) : Int) := by
        rw [addn _ _ b1, b2]
      have e0 : wrap64 (((l[j]'hlt).f1.size : Int) + 1) = (((l[j]'hlt).f1.size + 1 : Nat) : Int) := addn (l[j]'hlt).f1.size 1 b0
      rw [e0, e1, e2]
      exact h2 k hk2
    | false =>
      refine ⟨K1 + 1, fun k hk => ?_⟩
      obtain ⟨k, rfl⟩ : ∃ m, k = m + 1 := ⟨k - 1, by omega⟩
      show cubitref09_Join.l0 (k + 1) _ _ _ = _
      have h1 : cubitref09_right.f k (l[j]'hlt).f0 (l[j]'hlt).f1 (l[j]'hlt).f2 = some _ := h1 k (by omega)
      rw [cubitref09_Join.l0, if_pos (by omega), if_pos (by omega), rd_at l hlt, h1, bs, hr, if_neg (by decide)]
      unfold joinR
      rw [all_of l hlt hr, if_neg (by decide)]
theorem ref_join (l : List S31) (hl : l.length ≤ 2000000) (hz : szs l ≤ 2000000) (hb : ∀ t ∈ l, t.f1.size ≤ 140737488351232) : Ev (fun k => cubitref09_Join.f k l) (joinR l) := by
  unfold cubitref09_Join.f
  exact refjoin_l0 l hl hz hb l.length 0 (by omega) (by simp)
theorem same_refl (l : List S31) (hl : l.length ≤ 140737488351232) : Ev (fun k => cubitlaw09_same.f k l l) true := by
  have loop : ∀ (d j : Nat), j + d = l.length → Ev (fun k => cubitlaw09_same.l0 k l l (j : Int)) true := by
    intro d
    induction d with
    | zero =>
      intro j hj
      refine Ev.step (f := fun _ => some _) (fun k => ?_) (Ev.now _)
      rw [cubitlaw09_same.l0, if_neg (by omega)]
    | succ d ih =>
      intro j hj
      refine Ev.step (fun k => ?_) (ih (j + 1) (by omega))
      have e2 : wrap64 ((j : Int) + 1) = ((j + 1 : Nat) : Int) := w1 (show j < l.length by omega) hl
      rw [cubitlaw09_same.l0, if_pos (by omega), if_pos (by omega), if_pos (by omega), e2]
      simp only [beq_self_eq_true, Bool.not_true, Bool.or_self, Bool.false_eq_true, if_false]
  unfold cubitlaw09_same.f
  simp only [if_true]
  exact loop l.length 0 (by omega)
end Go.Proofs.Ytkonklmgkkbnmaa.Pure
