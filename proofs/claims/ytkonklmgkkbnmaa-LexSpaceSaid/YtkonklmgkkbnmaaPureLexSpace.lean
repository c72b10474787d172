/- LexSpace: blanks, or a remark and a line end, put in where a token begins, change no token but the later ones' places; for every text, place, blanks and remark. -/
import Derived.Test.YtkonklmgkkbnmaaPAx9
import Derived.Test.YtkonklmgkkbnmaaLexToks
import Derived.Test.YtkonklmgkkbnmaaLexBytes
import Derived.Test.YtkonklmgkkbnmaaPureLexScans
namespace Go.Proofs.Ytkonklmgkkbnmaa.Pure
open Go.RowKit Go.Proofs.Ytkonklmgkkbnmaa.PA Go.Proofs.Ytkonklmgkkbnmaa.B Go.Proofs.YtkonklmgkkbnmaaW.PrintWords Go.Proofs.YtkonklmgkkbnmaaW.PrintLast Go.Proofs.YtkonklmgkkbnmaaW.PrintMore
set_option linter.unusedVariables false
set_option linter.unusedSimpArgs false
theorem Gap.more {s : ByteArray} : ∀ (n m a b c : Nat), Gap s n a b → Gap s m b c → Gap s (n + m) a c
  | 0, m, a, b, c, h, h1 => by cases h; rw [Nat.zero_add]; exact h1
  | n + 1, m, a, b, c, h, h1 => by
    rw [show n + 1 + m = (n + m) + 1 by omega]
    rcases h with h | ⟨x, y, h⟩ | ⟨x, y, h⟩
    · subst h
      have up : ∀ (q k x y : Nat), Gap s q x y → Gap s (q + k) x y := by
        intro q
        induction q with
        | zero => intro k x y h; cases h; exact Gap.same _ _ _
        | succ q ih =>
          intro k x y h
          rw [show q + 1 + k = (q + k) + 1 by omega]
          rcases h with h | ⟨p, r, h⟩ | ⟨p, r, h⟩
          · exact .inl h
          · exact .inr (.inl ⟨p, r, ih k _ _ h⟩)
          · exact .inr (.inr ⟨p, r, ih k _ _ h⟩)
      have := up m (n + 1) a c h1
      rw [show m + (n + 1) = (n + m) + 1 by omega] at this
      exact this
    · exact .inr (.inl ⟨x, y, Gap.more n m _ _ _ h h1⟩)
    · exact .inr (.inr ⟨x, y, Gap.more n m _ _ _ h h1⟩)
/-- A text with more put in at place p. -/
structure Put (s m t : ByteArray) (p : Nat) : Prop where
  hp : p < s.size
  size : t.size = s.size + m.size
  low : ∀ j : Nat, j < p → bt t (j : Int) = bt s (j : Int)
  mid : ∀ j : Nat, j < m.size → bt t ((p + j : Nat) : Int) = bt m (j : Int)
  high : ∀ j : Nat, p ≤ j → j < s.size → bt t ((j + m.size : Nat) : Int) = bt s (j : Int)
theorem put_mk (s m : ByteArray) (p : Nat) (hp : p < s.size) : Put s m ((s.extract 0 p ++ m) ++ s.extract p s.size) p := by
  have h1 : (s.extract 0 p).size = p := by rw [size_ext s (by omega)]; omega
  have h2 : (s.extract p s.size).size = s.size - p := size_ext s (Nat.le_refl _)
  have h3 : (s.extract 0 p ++ m).size = p + m.size := by rw [ByteArray.size_append, h1]
  refine ⟨hp, by rw [ByteArray.size_append, h3, h2]; omega, ?_, ?_, ?_⟩
  · intro j hj
    rw [bt_app_l _ _ (by omega), bt_app_l _ _ (by omega), bt_ext s (by omega) (by omega), Nat.zero_add]
  · intro j hj
    rw [bt_app_l _ _ (by omega), bt_app_r _ _ (by omega) (by omega), h1]
    congr 2
    omega
  · intro j hj hj2
    rw [bt_app_r _ _ (by omega) (by omega), h3, bt_ext s (Nat.le_refl _) (by omega)]
    congr 2
    omega
section
variable {s m t : ByteArray} {p : Nat} (P : Put s m t p)
include P
/-- A run that ends ahead of the place ends there still. -/
theorem run_low {q : Int → Bool} : ∀ (n i : Nat), p - i ≤ n → i ≤ p → runTo q s i < p → runTo q t i = runTo q s i := by
  intro n
  induction n with
  | zero =>
    intro i h1 h2 h3
    have := runTo_ge q s i
    omega
  | succ n ih =>
    intro i h1 h2 h3
    have hge := runTo_ge q s i
    have hge2 := runTo_ge q s (i + 1)
    have hps := P.hp
    have hsz := P.size
    cases hq : q (bt s (i : Int)) with
    | true =>
      rw [runTo_step (by omega) hq] at h3 ⊢
      rw [runTo_step (by omega) (by rw [P.low i (by omega)]; exact hq)]
      exact ih (i + 1) (by omega) (by omega) h3
    | false =>
      rw [runTo_stop (fun _ => hq), runTo_stop (fun _ => by rw [P.low i (by omega)]; exact hq)]
/-- A run that comes to the place ends there, if what is put in begins otherwise. -/
theorem run_at {q : Int → Bool} (hm : 0 < m.size) (h0 : q (bt m ((0 : Nat) : Int)) = false) : ∀ (n i : Nat), p - i ≤ n → i ≤ p → runTo q s i = p → runTo q t i = p := by
  have hps := P.hp
  have hsz := P.size
  have stop : runTo q t p = p := runTo_stop (fun _ => by have := P.mid 0 hm; rw [Nat.add_zero] at this; rw [this]; exact h0)
  intro n
  induction n with
  | zero =>
    intro i h1 h2 h3
    obtain rfl : i = p := by omega
    exact stop
  | succ n ih =>
    intro i h1 h2 h3
    by_cases hi : i = p
    · subst hi; exact stop
    · cases hq : q (bt s (i : Int)) with
      | true =>
        rw [runTo_step (by omega) hq] at h3
        rw [runTo_step (by omega) (by rw [P.low i (by omega)]; exact hq)]
        exact ih (i + 1) (by omega) (by omega) h3
      | false =>
        rw [runTo_stop (fun _ => hq)] at h3
        omega
/-- A run behind the place. -/
theorem run_high {q : Int → Bool} : ∀ (n i : Nat), s.size - i ≤ n → p ≤ i → i ≤ s.size → runTo q t (i + m.size) = runTo q s i + m.size := by
  have hps := P.hp
  have hsz := P.size
  intro n
  induction n with
  | zero =>
    intro i h1 h2 h3
    rw [runTo_stop (fun h => by omega), runTo_stop (fun h => by omega)]
  | succ n ih =>
    intro i h1 h2 h3
    by_cases hi : i < s.size
    · cases hq : q (bt s (i : Int)) with
      | true =>
        rw [runTo_step hi hq, runTo_step (by omega) (by rw [P.high i h2 hi]; exact hq), show i + m.size + 1 = i + 1 + m.size by omega]
        exact ih (i + 1) (by omega) (by omega) (by omega)
      | false =>
        rw [runTo_stop (fun _ => hq), runTo_stop (fun _ => by rw [P.high i h2 hi]; exact hq)]
    · rw [runTo_stop (fun h => by omega), runTo_stop (fun h => by omega)]
theorem gap_low (hl : bt s (p : Int) ≠ 10) : ∀ (n e a : Nat), Gap s n e a → a ≤ p → Gap t n e a
  | 0, e, a, h, ha => h
  | n + 1, e, a, h, ha => by
    have hps := P.hp
    have hsz := P.size
    rcases h with h | ⟨x, y, h⟩ | ⟨x, y, h⟩
    · exact .inl h
    · have := h.le
      exact .inr (.inl ⟨by omega, by rw [P.low e (by omega)]; exact y, gap_low hl n _ _ h ha⟩)
    · have hle := h.le
      have hge := runTo_gt (p := lineB) x (by rw [y]; rfl)
      have hne : runTo lineB s e < p := by
        rcases Nat.lt_or_ge (runTo lineB s e) p with h' | h'
        · exact h'
        · exfalso
          have he : runTo lineB s e = p := by omega
          have h2 := nxt_end lineB s (s.size - e) e (Nat.le_refl _) (by show runTo lineB s e < s.size; omega)
          have h3 : (bt s (runTo lineB s e : Int) != 10) = false := h2
          rw [he] at h3
          exact hl (by simpa using h3)
      refine .inr (.inr ⟨by omega, by rw [P.low e (by omega)]; exact y, ?_⟩)
      rw [run_low P _ e (Nat.le_refl _) (by omega) hne]
      exact gap_low hl n _ _ h ha
theorem gap_high : ∀ (n e a : Nat), Gap s n e a → p ≤ e → Gap t n (e + m.size) (a + m.size)
  | 0, e, a, h, he => by cases h; rfl
  | n + 1, e, a, h, he => by
    have hps := P.hp
    have hsz := P.size
    rcases h with h | ⟨x, y, h⟩ | ⟨x, y, h⟩
    · exact .inl (by omega)
    · refine .inr (.inl ⟨by omega, by rw [P.high e he x]; exact y, ?_⟩)
      rw [show e + m.size + 1 = e + 1 + m.size by omega]
      exact gap_high n _ _ h (by omega)
    · refine .inr (.inr ⟨by omega, by rw [P.high e he x]; exact y, ?_⟩)
      rw [run_high P _ e (Nat.le_refl _) he (by omega)]
      have := runTo_ge lineB s e
      exact gap_high n _ _ h (by omega)
theorem tok_high {a b : Nat} {kd : Int} (h : TokAt s a b kd) (ha : a < s.size) (hpa : p ≤ a) : TokAt t (a + m.size) (b + m.size) kd ∧ t.extract (a + m.size) (b + m.size) = s.extract a b := by
  have hps := P.hp
  have hsz := P.size
  have hl := h.lt ha
  constructor
  · rcases h with ⟨h1, h2, h3⟩ | ⟨h1, h2, h3, h4⟩ | ⟨h1, h2, h3⟩
    · exact .inl ⟨h1, by rw [P.high a hpa ha]; exact h2, by rw [run_high P _ a (Nat.le_refl _) hpa (by omega), ← h3]⟩
    · refine .inr (.inl ⟨h1, by rw [P.high a hpa ha]; exact h2, by rw [run_high P _ a (Nat.le_refl _) hpa (by omega), ← h3], ?_⟩)
      rintro ⟨h5, h6⟩
      rw [P.high b (by omega) (by omega)] at h6
      exact h4 ⟨by omega, h6⟩
    · exact .inr (.inr ⟨h1, by rw [P.high a hpa ha]; exact h2, by omega⟩)
  · refine eq_of_bt (by rw [size_ext t (by omega), size_ext s (by omega)]; omega) (fun j hj => ?_)
    rw [size_ext t (by omega)] at hj
    rw [bt_ext t (by omega) (by omega), bt_ext s (by omega) (by omega), show a + m.size + j = (a + j) + m.size by omega]
    exact P.high (a + j) (by omega) (by omega)
end
/-- The later tokens, moved. -/
def moved (d : Nat) (r : List S31) : List S31 := r.map fun x => ⟨x.f0, x.f1, x.f2 + d⟩
theorem toks_high {s m t : ByteArray} {p : Nat} (P : Put s m t p) : ∀ (r : List S31) (e : Nat), Toks s r e → p ≤ e → Toks t (moved m.size r) (e + m.size)
  | [], e, ⟨n, h⟩, he => ⟨n, by rw [P.size]; exact gap_high P n e _ h he⟩
  | x :: r, e, ⟨a, b, n, kd, hg, ha, ht, et, hr⟩, he => by
    have hle := hg.le
    have hl := ht.lt ha
    have h2 := tok_high P ht ha (by omega)
    have hsz := P.size
    refine ⟨a + m.size, b + m.size, n, kd, gap_high P n e a hg he, by omega, h2.1, ?_, toks_high P r b hr (by omega)⟩
    rw [et, h2.2]
    simp
theorem toks_le {s : ByteArray} : ∀ (pre : List S31) (x : S31) (post : List S31) (e p : Nat), Toks s (pre ++ x :: post) e → x.f2 = (p : Int) → e ≤ p ∧ p < s.size
  | [], x, post, e, p, ⟨a, b, n, kd, hg, ha, ht, et, hr⟩, hx => by
    have := hg.le
    rw [et] at hx
    have : a = p := by have h_ : (a : Int) = (p : Int) := hx; exact_mod_cast h_
    omega
  | y :: pre, x, post, e, p, ⟨a, b, n, kd, hg, ha, ht, et, hr⟩, hx => by
    have h1 := hg.le
    have h2 := ht.lt ha
    have h3 := toks_le pre x post b p hr hx
    omega
theorem toks_start {s : ByteArray} : ∀ (pre : List S31) (x : S31) (post : List S31) (e p : Nat), Toks s (pre ++ x :: post) e → x.f2 = (p : Int) → blankB (bt s (p : Int)) = false ∧ bt s (p : Int) ≠ 35
  | [], x, post, e, p, ⟨a, b, n, kd, hg, ha, ht, et, hr⟩, hx => by
    rw [et] at hx
    have : a = p := by have h_ : (a : Int) = (p : Int) := hx; exact_mod_cast h_
    subst this
    exact ht.not
  | y :: pre, x, post, e, p, ⟨a, b, n, kd, hg, ha, ht, et, hr⟩, hx => toks_start pre x post b p hr hx
theorem toks_put {s m t : ByteArray} {p : Nat} (P : Put s m t p) (hm : ∃ n, Gap t n p (p + m.size)) (h0 : 0 < m.size → nameB (bt m ((0 : Nat) : Int)) = false) (hl : bt s (p : Int) ≠ 10) :
    ∀ (pre : List S31) (x : S31) (post : List S31) (e : Nat), Toks s (pre ++ x :: post) e → x.f2 = (p : Int) → Toks t (pre ++ moved m.size (x :: post)) e
  | [], x, post, e, ⟨a, b, n, kd, hg, ha, ht, et, hr⟩, hx => by
    rw [et] at hx
    have hap : a = p := by have h_ : (a : Int) = (p : Int) := hx; exact_mod_cast h_
    subst hap
    obtain ⟨n2, hm⟩ := hm
    have h2 := tok_high P ht ha (Nat.le_refl _)
    have hsz := P.size
    have hl2 := ht.lt ha
    refine ⟨a + m.size, b + m.size, n + n2, kd, Gap.more _ _ _ _ _ (gap_low P hl n e a hg (Nat.le_refl _)) hm, by omega, h2.1, ?_, toks_high P post b hr (by omega)⟩
    rw [et, h2.2]
    simp
  | y :: pre, x, post, e, ⟨a, b, n, kd, hg, ha, ht, et, hr⟩, hx => by
    have hle := hg.le
    have hl2 := ht.lt ha
    have hbp := toks_le pre x post b p hr hx
    have hsz := P.size
    have hex : t.extract a b = s.extract a b := by
      refine eq_of_bt (by rw [size_ext t (by omega), size_ext s (by omega)]) (fun j hj => ?_)
      rw [size_ext t (by omega)] at hj
      rw [bt_ext t (by omega) (by omega), bt_ext s (by omega) (by omega)]
      exact P.low (a + j) (by omega)
    have run : ∀ q : Int → Bool, (0 < m.size → q (bt m ((0 : Nat) : Int)) = false) → runTo q s a = b → runTo q t a = b := by
      intro q hq h
      rcases Nat.lt_or_ge b p with h' | h'
      · rw [run_low P _ a (Nat.le_refl _) (by omega) (by omega), h]
      · have hbe : b = p := by omega
        rcases Nat.eq_zero_or_pos m.size with hz | hz
        · have := run_high P (q := q) _ p (Nat.le_refl _) (Nat.le_refl _) (by omega)
          -- nothing is put in: the same bytes everywhere
          have same : t = s := eq_of_bt (by omega) (fun j hj => by
            rcases Nat.lt_or_ge j p with h1 | h1
            · exact P.low j h1
            · have := P.high j h1 (by omega)
              rw [hz, Nat.add_zero] at this
              exact this)
          rw [same, h]
        · rw [run_at P hz (hq hz) _ a (Nat.le_refl _) (by omega) (by omega), hbe]
    have hdig : 0 < m.size → digitB (bt m ((0 : Nat) : Int)) = false := by
      intro h
      have := h0 h
      unfold nameB at this
      rw [Bool.or_eq_false_iff] at this
      exact this.2
    have hlet : 0 < m.size → letterB (bt m ((0 : Nat) : Int)) = false := by
      intro h
      have := h0 h
      unfold nameB at this
      rw [Bool.or_eq_false_iff] at this
      exact this.1
    refine ⟨a, b, n, kd, gap_low P hl n e a hg (by omega), by omega, ?_, by rw [et, hex], toks_put P hm h0 hl pre x post b hr hx⟩
    rcases ht with ⟨h1, h2, h3⟩ | ⟨h1, h2, h3, h4⟩ | ⟨h1, h2, h3⟩
    · exact .inl ⟨h1, by rw [P.low a (by omega)]; exact h2, (run nameB h0 h3.symm).symm⟩
    · refine .inr (.inl ⟨h1, by rw [P.low a (by omega)]; exact h2, (run digitB hdig h3.symm).symm, ?_⟩)
      rintro ⟨h5, h6⟩
      rcases Nat.lt_or_ge b p with h' | h'
      · rw [P.low b h'] at h6
        exact h4 ⟨by omega, h6⟩
      · have hbe : b = p := by omega
        rcases Nat.eq_zero_or_pos m.size with hz | hz
        · have := P.high b (by omega) (by omega)
          rw [hz, Nat.add_zero] at this
          rw [this] at h6
          exact h4 ⟨by omega, h6⟩
        · have := P.mid 0 hz
          rw [Nat.add_zero, ← hbe] at this
          rw [this, hlet hz] at h6
          cases h6
    · exact .inr (.inr ⟨h1, by rw [P.low a (by omega)]; exact h2, h3⟩)
/-- What may be put in: blanks; behind them, perhaps, a remark and a line's end. -/
def MB (x : ByteArray) : Prop := ∀ j : Nat, j < x.size → blankB (bt x (j : Int)) = true
def MR (x : ByteArray) (nb : Nat) : Prop := nb < x.size ∧ (∀ j : Nat, j < nb → blankB (bt x (j : Int)) = true) ∧ bt x (nb : Int) = 35 ∧ ∀ j : Nat, nb < j → j < x.size → bt x (j : Int) ≠ 10
def ML (x : ByteArray) (nb : Nat) : Prop := nb + 1 < x.size ∧ (∀ j : Nat, j < nb → blankB (bt x (j : Int)) = true) ∧ bt x (nb : Int) = 35 ∧ (∀ j : Nat, nb < j → j + 1 < x.size → bt x (j : Int) ≠ 10) ∧ bt x ((x.size - 1 : Nat) : Int) = 10
def More (x : ByteArray) : Prop := MB x ∨ ∃ nb, ML x nb
theorem blanks_gap {s m t : ByteArray} {p : Nat} (P : Put s m t p) (nb : Nat) (hnb : nb ≤ m.size) (h : ∀ j : Nat, j < nb → blankB (bt m (j : Int)) = true) : ∀ (k : Nat), k ≤ nb → Gap t k p (p + k)
  | 0, _ => rfl
  | k + 1, hk => by
    have hsz := P.size
    have := P.hp
    exact Gap.snoc k p (p + k) (p + (k + 1)) (blanks_gap P nb hnb h k (by omega)) (.inr (.inl ⟨by omega, by rw [P.mid k (by omega)]; exact h k (by omega), rfl⟩))
theorem more_gap {s m t : ByteArray} {p : Nat} (P : Put s m t p) (h : More m) : ∃ n, Gap t n p (p + m.size) := by
  have hsz := P.size
  have hps := P.hp
  rcases h with h | ⟨nb, h1, h2, h3, h4, h5⟩
  · exact ⟨m.size, blanks_gap P m.size (Nat.le_refl _) h m.size (Nat.le_refl _)⟩
  · have g1 := blanks_gap P nb (by omega) h2 nb (Nat.le_refl _)
    have b35 : bt t ((p + nb : Nat) : Int) = 35 := by rw [P.mid nb (by omega)]; exact h3
    have run : ∀ (k j : Nat), m.size - 1 - j ≤ k → nb ≤ j → j ≤ m.size - 1 → runTo lineB t (p + j) = p + (m.size - 1) := by
      intro k
      induction k with
      | zero =>
        intro j q1 q2 q3
        obtain rfl : j = m.size - 1 := by omega
        refine runTo_stop (fun _ => ?_)
        rw [P.mid (m.size - 1) (by omega), h5]
        rfl
      | succ k ih =>
        intro j q1 q2 q3
        by_cases hj : j = m.size - 1
        · subst hj
          refine runTo_stop (fun _ => ?_)
          rw [P.mid (m.size - 1) (by omega), h5]
          rfl
        · have hb : lineB (bt t ((p + j : Nat) : Int)) = true := by
            rw [P.mid j (by omega)]
            rcases Nat.lt_or_ge nb j with h' | h'
            · have := h4 j h' (by omega)
              unfold lineB
              simpa using this
            · obtain rfl : j = nb := by omega
              rw [h3]; rfl
          rw [runTo_step (by omega) hb, show p + j + 1 = p + (j + 1) by omega]
          exact ih (j + 1) (by omega) (by omega) (by omega)
    have g2 : Gap t (nb + 1) p (p + (m.size - 1)) := Gap.snoc nb p (p + nb) _ g1 (.inr (.inr ⟨by omega, b35, run _ nb (Nat.le_refl _) (Nat.le_refl _) (by omega)⟩))
    have g3 : Gap t (nb + 1 + 1) p (p + m.size) := Gap.snoc (nb + 1) p _ (p + m.size) g2 (.inr (.inl ⟨by omega, by rw [P.mid (m.size - 1) (by omega), h5]; rfl, show p + (m.size - 1) + 1 = p + m.size by omega⟩))
    exact ⟨_, g3⟩
theorem more_first {m : ByteArray} (h : More m) (h0 : 0 < m.size) : nameB (bt m ((0 : Nat) : Int)) = false := by
  have bl : ∀ b : Int, blankB b = true → nameB b = false := by
    intro b hb
    unfold blankB at hb
    simp only [Bool.or_eq_true, beq_iff_eq] at hb
    rcases hb with h | h | h | h <;> (rw [h]; rfl)
  rcases h with h | ⟨nb, h1, h2, h3, _, _⟩
  · exact bl _ (h 0 h0)
  · rcases Nat.eq_zero_or_pos nb with hz | hz
    · subst hz
      rw [h3]; rfl
    · exact bl _ (h2 0 hz)
theorem mb_app {x : ByteArray} (h : MB x) {c : Int} (hc : 0 ≤ c ∧ c ≤ 255) (hb : blankB c = true) : MB (x ++ strOfNums [c]) := by
  intro j hj
  rw [ByteArray.size_append, strOfNums_size, List.length_singleton] at hj
  rcases Nat.lt_or_ge j x.size with h' | h'
  · rw [bt_app_l _ _ h']; exact h j h'
  · obtain rfl : j = x.size := by omega
    rw [bt_app_r _ _ (Nat.le_refl _) (by rw [strOfNums_size, List.length_singleton]; omega), Nat.sub_self, bt_one c hc]
    exact hb
theorem mr_of_mb {x : ByteArray} (h : MB x) : MR (x ++ (⟨#[35]⟩ : ByteArray)) x.size := by
  have h1 : (⟨#[35]⟩ : ByteArray).size = 1 := rfl
  refine ⟨by rw [ByteArray.size_append, h1]; omega, fun j hj => ?_, ?_, fun j hj hj2 => ?_⟩
  · rw [bt_app_l _ _ hj]; exact h j hj
  · rw [bt_app_r _ _ (Nat.le_refl _) (by rw [h1]; omega), Nat.sub_self]; rfl
  · rw [ByteArray.size_append, h1] at hj2; omega
theorem mr_app {x y : ByteArray} {nb : Nat} (h : MR x nb) (hy : ∀ j : Nat, j < y.size → bt y (j : Int) ≠ 10) : MR (x ++ y) nb := by
  obtain ⟨h1, h2, h3, h4⟩ := h
  refine ⟨by rw [ByteArray.size_append]; omega, fun j hj => ?_, ?_, fun j hj hj2 => ?_⟩
  · rw [bt_app_l _ _ (by omega)]; exact h2 j hj
  · rw [bt_app_l _ _ h1]; exact h3
  · rw [ByteArray.size_append] at hj2
    rcases Nat.lt_or_ge j x.size with h' | h'
    · rw [bt_app_l _ _ h']; exact h4 j hj h'
    · rw [bt_app_r _ _ h' hj2]; exact hy _ (by omega)
theorem ml_of_mr {x : ByteArray} {nb : Nat} (h : MR x nb) : ML (x ++ (⟨#[10]⟩ : ByteArray)) nb := by
  have h1 : (⟨#[10]⟩ : ByteArray).size = 1 := rfl
  obtain ⟨p1, p2, p3, p4⟩ := h
  have hs : (x ++ (⟨#[10]⟩ : ByteArray)).size = x.size + 1 := by rw [ByteArray.size_append, h1]
  refine ⟨by omega, fun j hj => ?_, ?_, fun j hj hj2 => ?_, ?_⟩
  · rw [bt_app_l _ _ (by omega)]; exact p2 j hj
  · rw [bt_app_l _ _ p1]; exact p3
  · rw [hs] at hj2
    rw [bt_app_l _ _ (by omega)]; exact p4 j hj (by omega)
  · rw [hs, Nat.add_sub_cancel, bt_app_r _ _ (Nat.le_refl _) (by rw [h1]; omega), Nat.sub_self]; rfl
theorem moved_len (d : Nat) (r : List S31) : (moved d r).length = r.length := by simp [moved]
theorem rd_at (L : List S31) (j : Nat) (h : j < L.length) : rd_T31 L (j : Int) = L[j] := by
  unfold rd_T31
  simp [h]
/-- The statement's last look: the same tokens, the later ones moved. -/
theorem look_ev (m : ByteArray) (hm : m.size ≤ 65536) (L M : List S31) (hL : L.length ≤ 65536) (k : Nat) (hk : k < L.length) (hM : M = L.take k ++ moved m.size (L.drop k)) (hat : ∀ x ∈ L, 0 ≤ x.f2 ∧ x.f2 ≤ 65536) :
    ∀ (n j : Nat), L.length - j ≤ n → j ≤ L.length → Ev (fun q => cubitlaw09_LexSpace.l2 q L (k : Int) m M (j : Int)) true := by
  have hlen : M.length = L.length := by rw [hM, List.length_append, moved_len, List.length_take, List.length_drop]; omega
  intro n
  induction n with
  | zero =>
    intro j h1 h2
    refine Ev.step (f := fun _ => some true) (fun q => ?_) (Ev.now _)
    simp only [cubitlaw09_LexSpace.l2]
    rw [if_neg (by omega)]
  | succ n ih =>
    intro j h1 h2
    by_cases hj : j < L.length
    · refine Ev.step (f := fun q => cubitlaw09_LexSpace.l2 q L (k : Int) m M ((j + 1 : Nat) : Int)) (fun q => ?_) (ih (j + 1) (by omega) (by omega))
      have hx := hat L[j] (List.getElem_mem hj)
      simp only [cubitlaw09_LexSpace.l2]
      rw [if_pos (by omega), if_pos (by omega), w1l hj (by omega), rd_at L j hj, rd_at M j (by omega)]
      by_cases hjk : k ≤ j
      · have e : M[j]'(by omega) = ⟨L[j].f0, L[j].f1, L[j].f2 + m.size⟩ := by
          subst hM
          rw [List.getElem_append_right (by rw [List.length_take]; omega)]
          simp only [moved, List.getElem_map, List.getElem_drop, List.length_take]
          have : k + (j - min k L.length) = j := by omega
          simp only [this]
        have w : wrap64 (L[j].f2 + (m.size : Int)) = L[j].f2 + (m.size : Int) := by unfold wrap64; omega
        rw [if_pos (by omega), if_pos (by omega), e, w]
        simp
      · have e : M[j]'(by omega) = L[j] := by
          subst hM
          rw [List.getElem_append_left (by rw [List.length_take]; omega)]
          simp
        rw [if_neg (by omega), if_pos (by omega), e]
        simp
    · refine Ev.step (f := fun _ => some true) (fun q => ?_) (Ev.now _)
      simp only [cubitlaw09_LexSpace.l2]
      rw [if_neg (by omega)]
theorem toks_at {s : ByteArray} : ∀ (r : List S31) (e : Nat), Toks s r e → ∀ x ∈ r, 0 ≤ x.f2 ∧ x.f2 ≤ (s.size : Int)
  | [], e, h, x, hx => by cases hx
  | y :: r, e, ⟨a, b, n, kd, hg, ha, ht, et, hr⟩, x, hx => by
    rcases List.mem_cons.1 hx with rfl | hx
    · rw [et]
      exact ⟨by simp, by simp; omega⟩
    · exact toks_at r b hr x hx
/-- With what is put in made. -/
theorem put_ev (s m : ByteArray) (L : List S31) (hs : s.size ≤ 65536) (hL : L.length ≤ 65536) (hT : Toks s L 0) (k : Nat) (hk : k < L.length) (hm : More m) (hms : m.size ≤ 1000) :
    Ev (fun q => cubitlaw09_LexSpace.j6 q s L (k : Int) m) true := by
  have hsplit : L = L.take k ++ L[k] :: L.drop (k + 1) := by
    rw [List.getElem_cons_drop, List.take_append_drop]
  have hat := toks_at L 0 hT
  have hx := hat L[k] (List.getElem_mem hk)
  obtain ⟨p, hp⟩ : ∃ p : Nat, L[k].f2 = (p : Int) := ⟨L[k].f2.toNat, by omega⟩
  have hT2 := hT
  rw [hsplit] at hT2
  have hps := (toks_le _ _ _ 0 p hT2 hp).2
  have hst := toks_start _ _ _ 0 p hT2 hp
  have hw : wrap64 ((s.size : Int) + (m.size : Int)) = ((s.size + m.size : Nat) : Int) := by unfold wrap64; omega
  by_cases hbig : s.size + m.size > 65536
  · refine Ev.step (f := fun _ => some true) (fun q => ?_) (Ev.now _)
    simp only [cubitlaw09_LexSpace.j6]
    rw [if_pos (by omega), if_pos (by omega), hw, if_pos (by omega)]
  · have P := put_mk s m p hps
    have hl : bt s (p : Int) ≠ 10 := by
      intro h
      have := hst.1
      rw [h] at this
      cases this
    have hT3 : Toks ((s.extract 0 p ++ m) ++ s.extract p s.size) (L.take k ++ moved m.size (L[k] :: L.drop (k + 1))) 0 :=
      toks_put P (more_gap P hm) (more_first hm) hl _ _ _ 0 hT2 hp
    rw [List.getElem_cons_drop] at hT3
    have hscan := scanW_of hT3 (by rw [P.size]; omega)
    have h1 : (s.extract 0 p).size = p := by rw [size_ext s (by omega)]; omega
    have h2 : (s.extract p s.size).size = s.size - p := size_ext s (Nat.le_refl _)
    have h3 : (s.extract 0 p ++ m).size = p + m.size := by rw [ByteArray.size_append, h1]
    have hlen : (L.take k ++ moved m.size (L.drop k)).length = L.length := by rw [List.length_append, moved_len, List.length_take, List.length_drop]; omega
    refine Ev.step (f := fun q => (lex_Scan.f q (((s.extract 0 p) ++ m) ++ (s.extract p s.size))).bind fun bt213 => (if bt213.2.2 = 0 then (cubitlaw09_LexSpace.j7 q L (k : Int) m bt213.1 ((bt213.1.length : Int) != (L.length : Int))) else (cubitlaw09_LexSpace.j7 q L (k : Int) m bt213.1 true))) (fun q => ?_) (Ev.bind (scan_prog _) ?_)
    · simp only [cubitlaw09_LexSpace.j6]
      rw [rd_at L k hk, hp, hw]
      simp only [Int.toNat_natCast]
      rw [if_pos (by omega), if_pos (by omega), if_neg (by omega), if_pos (by omega), if_pos (by omega), if_pos (by omega), if_pos (by omega)]
    · rw [hscan]
      simp only [if_true, hlen, bne_self_eq_false]
      refine Ev.step (f := fun q => cubitlaw09_LexSpace.l2 q L (k : Int) m (L.take k ++ moved m.size (L.drop k)) ((0 : Nat) : Int)) (fun q => ?_) (look_ev m (by omega) L _ hL k hk rfl (fun x hx => ⟨(hat x hx).1, by have := (hat x hx).2; omega⟩) _ 0 (Nat.le_refl _) (Nat.zero_le _))
      simp only [cubitlaw09_LexSpace.j7, Bool.false_eq_true, if_false]
      rfl
section
variable (s r : ByteArray) (L : List S31) (hs : s.size ≤ 65536) (hL : L.length ≤ 65536) (hT : Toks s L 0) (k : Nat) (hk : k < L.length)
include hs hL hT hk
/-- The remark is put behind. -/
theorem rem_ev (hr : r.size < 100) : ∀ (n j : Nat) (m : ByteArray) (nb : Nat), r.size - j ≤ n → j ≤ r.size → MR m nb → m.size ≤ 51 + j → Ev (fun q => cubitlaw09_LexSpace.l1 q s r L (k : Int) m (j : Int)) true := by
  intro n
  induction n with
  | zero =>
    intro j m nb h1 h2 h3 h4
    have hsz : (m ++ (⟨#[10]⟩ : ByteArray)).size = m.size + 1 := by rw [ByteArray.size_append]; rfl
    refine Ev.step (f := fun q => cubitlaw09_LexSpace.j6 q s L (k : Int) (m ++ (⟨#[10]⟩ : ByteArray))) (fun q => ?_) (put_ev s _ L hs hL hT k hk (.inr ⟨nb, ml_of_mr h3⟩) (by omega))
    simp only [cubitlaw09_LexSpace.l1]
    rw [if_neg (by omega), if_pos (by omega)]
  | succ n ih =>
    intro j m nb h1 h2 h3 h4
    by_cases hj : j < r.size
    · by_cases h10 : bt r (j : Int) = 10
      · refine Ev.step (f := fun q => cubitlaw09_LexSpace.l1 q s r L (k : Int) m ((j + 1 : Nat) : Int)) (fun q => ?_) (ih (j + 1) m nb (by omega) (by omega) h3 (by omega))
        simp only [cubitlaw09_LexSpace.l1]
        rw [if_pos (by omega), if_pos (by omega), if_pos h10, w1l hj (by omega)]
      · have hsz := size_ext r (a := j) (b := j + 1) (by omega)
        have hsz2 : (m ++ r.extract j (j + 1)).size = m.size + 1 := by rw [ByteArray.size_append, hsz]; omega
        refine Ev.step (f := fun q => cubitlaw09_LexSpace.l1 q s r L (k : Int) (m ++ r.extract j (j + 1)) ((j + 1 : Nat) : Int)) (fun q => ?_) (ih (j + 1) _ nb (by omega) (by omega) (mr_app h3 ?_) (by omega))
        · simp only [cubitlaw09_LexSpace.l1]
          rw [if_pos (by omega), if_pos (by omega), if_neg h10, w1l hj (by omega)]
          simp only [Int.toNat_natCast]
          rw [if_pos (by omega), if_pos (by omega), if_pos (by omega)]
        · intro i hi
          obtain rfl : i = 0 := by omega
          rw [bt_ext r (by omega) (by omega), Nat.add_zero]
          exact h10
    · have hsz : (m ++ (⟨#[10]⟩ : ByteArray)).size = m.size + 1 := by rw [ByteArray.size_append]; rfl
      refine Ev.step (f := fun q => cubitlaw09_LexSpace.j6 q s L (k : Int) (m ++ (⟨#[10]⟩ : ByteArray))) (fun q => ?_) (put_ev s _ L hs hL hT k hk (.inr ⟨nb, ml_of_mr h3⟩) (by omega))
      simp only [cubitlaw09_LexSpace.l1]
      rw [if_neg (by omega), if_pos (by omega)]
theorem behind_ev (m : ByteArray) (hm : MB m) (hms : m.size ≤ 50) : Ev (fun q => cubitlaw09_LexSpace.j3 q s r L (k : Int) m) true := by
  have no : Ev (fun q => cubitlaw09_LexSpace.j4 q s r L (k : Int) m false) true := by
    refine Ev.step (f := fun q => cubitlaw09_LexSpace.j6 q s L (k : Int) m) (fun q => ?_) (put_ev s m L hs hL hT k hk (.inl hm) (by omega))
    simp only [cubitlaw09_LexSpace.j4, Bool.false_eq_true, if_false]
  by_cases hr : r.toList = ([] : List UInt8)
  · refine Ev.step (fun q => ?_) no
    simp only [cubitlaw09_LexSpace.j3]
    rw [if_pos hr]
  · by_cases hr2 : r.size < 100
    · have hsz : (m ++ (⟨#[35]⟩ : ByteArray)).size = m.size + 1 := by rw [ByteArray.size_append]; rfl
      refine Ev.step (f := fun q => cubitlaw09_LexSpace.j4 q s r L (k : Int) m true) (fun q => ?_) (Ev.step (f := fun q => cubitlaw09_LexSpace.l1 q s r L (k : Int) (m ++ (⟨#[35]⟩ : ByteArray)) ((0 : Nat) : Int)) (fun q => ?_) (rem_ev s r L hs hL hT k hk hr2 _ 0 _ m.size (Nat.le_refl _) (Nat.zero_le _) (mr_of_mb hm) (by omega)))
      · simp only [cubitlaw09_LexSpace.j3]
        rw [if_neg hr, decide_eq_true (by omega)]
      · simp only [cubitlaw09_LexSpace.j4, if_true]
        rw [if_pos (by omega)]
        rfl
    · refine Ev.step (fun q => ?_) no
      simp only [cubitlaw09_LexSpace.j3]
      rw [if_neg hr, decide_eq_false (by omega)]
theorem blanks_ev (B : List Int) (hB : ∀ x ∈ B, 0 ≤ x) : ∀ (n j : Nat) (m : ByteArray), 50 - j ≤ n → j ≤ 50 → j ≤ B.length → MB m → m.size = j → Ev (fun q => cubitlaw09_LexSpace.l0 q s B r L (k : Int) m (j : Int)) true := by
  have stop : ∀ (j : Nat) (m : ByteArray), ¬ (j < B.length ∧ j < 50) → j ≤ 50 → MB m → m.size = j → Ev (fun q => cubitlaw09_LexSpace.l0 q s B r L (k : Int) m (j : Int)) true := by
    intro j m hj h50 hm hms
    refine Ev.step (fun q => ?_) (behind_ev s r L hs hL hT k hk m hm (by omega))
    simp only [cubitlaw09_LexSpace.l0]
    by_cases h : j < B.length
    · rw [if_pos (by omega), if_neg (by omega)]
    · rw [if_neg (by omega)]
  intro n
  induction n with
  | zero =>
    intro j m h1 h2 h3 h4 h5
    exact stop j m (by omega) h2 h4 h5
  | succ n ih =>
    intro j m h1 h2 h3 h4 h5
    by_cases hj : j < B.length ∧ j < 50
    · have hb : 0 ≤ rd B (j : Int) := by
        unfold rd
        simp only [Int.toNat_natCast]
        rw [List.getD_eq_getElem?_getD, List.getElem?_eq_getElem hj.1]
        exact hB _ (List.getElem_mem hj.1)
      have ht : 0 ≤ Int.tmod (rd B (j : Int)) 4 ∧ Int.tmod (rd B (j : Int)) 4 < 4 := ⟨Int.tmod_nonneg _ hb, Int.tmod_lt_of_pos _ (by decide)⟩
      obtain ⟨c, hc⟩ : ∃ c : Nat, Int.tmod (rd B (j : Int)) 4 = (c : Int) := ⟨(Int.tmod (rd B (j : Int)) 4).toNat, by omega⟩
      have hc4 : c < 4 := by omega
      have hbl : (0 ≤ bt (⟨#[32, 9, 10, 13]⟩ : ByteArray) (c : Int) ∧ bt (⟨#[32, 9, 10, 13]⟩ : ByteArray) (c : Int) ≤ 255) ∧ blankB (bt (⟨#[32, 9, 10, 13]⟩ : ByteArray) (c : Int)) = true := by
        have h : c = 0 ∨ c = 1 ∨ c = 2 ∨ c = 3 := by omega
        rcases h with rfl | rfl | rfl | rfl <;> decide +kernel
      have hsz : (m ++ strOfNums [bt (⟨#[32, 9, 10, 13]⟩ : ByteArray) (c : Int)]).size = j + 1 := by rw [ByteArray.size_append, strOfNums_size, h5]; rfl
      have hsz1 : (strOfNums [bt (⟨#[32, 9, 10, 13]⟩ : ByteArray) (c : Int)]).size = 1 := by rw [strOfNums_size]; rfl
      refine Ev.step (f := fun q => cubitlaw09_LexSpace.l0 q s B r L (k : Int) (m ++ strOfNums [bt (⟨#[32, 9, 10, 13]⟩ : ByteArray) (c : Int)]) ((j + 1 : Nat) : Int)) (fun q => ?_) (ih (j + 1) _ (by omega) (by omega) (by omega) (mb_app h4 hbl.1 hbl.2) hsz)
      simp only [cubitlaw09_LexSpace.l0]
      rw [hc, if_pos (by omega), if_pos (by omega), if_pos (by omega), if_pos (by omega), if_pos (by omega)]
      simp only [Option.bind_some]
      rw [if_pos (by omega), w1l (n := 50) hj.2 (by omega)]
    · exact stop j m hj h2 h4 h5
end
theorem LexSpace : cubitlaw09_LexSpace.Pure := by
  intro s which B r hs hw hB1 hB2 hB3 hr
  refine Ev.rounds (r := true) ?_
  have bw := bounds_i64 hw
  have hB : ∀ x ∈ B, 0 ≤ x := fun x hx => (bounds_u8 (hB3 x hx)).1
  have hl := scanW_len s
  unfold cubitlaw09_LexSpace.f
  refine Ev.bind awake_ev ?_
  simp only [if_true]
  refine Ev.bind (scan_prog s) ?_
  have out : ∀ L : List S31, Ev (fun q => cubitlaw09_LexSpace.j0 q s which B r L true) true := by
    intro L
    refine Ev.step (f := fun _ => some true) (fun q => ?_) (Ev.now _)
    simp only [cubitlaw09_LexSpace.j0, if_true]
  rcases scanW_cases s with ⟨L, hL, hT, hsz⟩ | ⟨j, hj, hL⟩ | hL
  · rw [hL] at hl ⊢
    simp only [if_true]
    by_cases hz : L.length = 0
    · have e : (((L.length : Int)) == 0) = true := by rw [hz]; rfl
      rw [e]
      exact out L
    · have e : (((L.length : Int)) == 0) = false := beq_eq_false_iff_ne.mpr (by omega)
      rw [e]
      have go : ∀ w : Int, 0 ≤ w → Ev (fun q => cubitlaw09_LexSpace.j1 q s w B r L) true := by
        intro w hw0
        have ht : 0 ≤ Int.tmod w (L.length : Int) ∧ Int.tmod w (L.length : Int) < (L.length : Int) := ⟨Int.tmod_nonneg _ hw0, Int.tmod_lt_of_pos _ (by omega)⟩
        obtain ⟨k, hk⟩ : ∃ k : Nat, Int.tmod w (L.length : Int) = (k : Int) := ⟨(Int.tmod w (L.length : Int)).toNat, by omega⟩
        refine Ev.step (f := fun q => cubitlaw09_LexSpace.l0 q s B r L (k : Int) (⟨#[]⟩ : ByteArray) ((0 : Nat) : Int)) (fun q => ?_) (blanks_ev s r L hsz hl hT k (by omega) B hB _ 0 _ (Nat.le_refl _) (by omega) (by omega) (fun j hj => absurd hj (by show ¬ j < 0; omega)) rfl)
        simp only [cubitlaw09_LexSpace.j1]
        rw [if_neg (by omega), hk]
        rfl
      by_cases hneg : which < 0
      · refine Ev.step (f := fun q => cubitlaw09_LexSpace.j1 q s (wrap64 (-(wrap64 (which + 1)))) B r L) (fun q => ?_) (go _ ?_)
        · simp only [cubitlaw09_LexSpace.j0, Bool.false_eq_true, if_false]
          rw [if_pos hneg]
        · have : wrap64 (which + 1) = which + 1 := by unfold wrap64; omega
          rw [this]
          unfold wrap64
          omega
      · refine Ev.step (f := fun q => cubitlaw09_LexSpace.j1 q s which B r L) (fun q => ?_) (go _ (by omega))
        simp only [cubitlaw09_LexSpace.j0, Bool.false_eq_true, if_false]
        rw [if_neg hneg]
  · rw [hL]
    refine Ev.congr (fun q => ?_) (out [])
    simp only []
    rw [if_neg (by decide)]
  · rw [hL]
    refine Ev.congr (fun q => ?_) (out [])
    simp only []
    rw [if_neg (by decide)]
end Go.Proofs.Ytkonklmgkkbnmaa.Pure
