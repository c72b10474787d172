/- A gate applied to a list of amplitudes: in plain Lean. -/
import Derived.Test.YtlobgpgdknjhlaaGreatWhP
namespace Go.Proofs.YtlobgpgdknjhlaaGreat.WH
open Go Go.RowKit Go.Proofs.YtlobgpgdknjhlaaGreat.F
set_option linter.unusedVariables false
set_option linter.unusedSimpArgs false
theorem getD_at {qs : List Nat} {j : Nat} (h : j < qs.length) : qs[j]?.getD 0 = qs[j] := by simp [h]
theorem putN_hit (x : Nat) (qs : List Nat) (v : Nat) (hd : qs.Nodup) : ∀ j (hj : j ≤ qs.length) k (hk : k < j), (putN x qs v j).testBit (qs[k]'(by omega)) = v.testBit k
  | 0, _, k, hk => absurd hk (Nat.not_lt_zero _)
  | j + 1, hj, k, hk => by
    rw [putN, B.testBit_setB, getD_at (show j < qs.length by omega)]
    by_cases e : k = j
    · subst e; simp
    · have hne : qs[k]'(by omega) ≠ qs[j]'(by omega) := fun h => e ((List.getElem_inj hd).1 h)
      rw [if_neg hne]
      exact putN_hit x qs v hd j (by omega) k (by omega)
theorem putN_off (x : Nat) (qs : List Nat) (v : Nat) {i : Nat} (hi : i ∉ qs) : ∀ j, j ≤ qs.length → (putN x qs v j).testBit i = x.testBit i
  | 0, _ => rfl
  | j + 1, hj => by
    have hne : i ≠ qs[j]'(by omega) := fun h => hi (h ▸ List.getElem_mem (by omega))
    rw [putN, B.testBit_setB, getD_at (show j < qs.length by omega), if_neg hne]
    exact putN_off x qs v hi j (by omega)
theorem pickN_bit (x : Nat) (qs : List Nat) (k : Nat) (hk : k < qs.length) : (pickN x qs).testBit k = x.testBit qs[k] := by
  unfold pickN
  rw [B.testBit_ofB, getD_at hk]
  simp [hk]
theorem pickN_lt (x : Nat) (qs : List Nat) : pickN x qs < 2 ^ qs.length := B.ofB_lt' _ _
theorem pick_put (x : Nat) {qs : List Nat} {v : Nat} (hd : qs.Nodup) (hv : v < 2 ^ qs.length) : pickN (putN x qs v qs.length) qs = v := by
  unfold pickN
  refine B.ofB_eq hv fun i hi => ?_
  rw [getD_at hi]
  exact putN_hit x qs v hd _ (Nat.le_refl _) i hi
theorem put_pick (x : Nat) {qs : List Nat} (hd : qs.Nodup) : putN x qs (pickN x qs) qs.length = x := by
  refine Nat.eq_of_testBit_eq fun i => ?_
  by_cases h : i ∈ qs
  · obtain ⟨k, hk, rfl⟩ := List.mem_iff_getElem.1 h
    rw [putN_hit x qs _ hd _ (Nat.le_refl _) k hk, pickN_bit x qs k hk]
  · exact putN_off x qs _ h _ (Nat.le_refl _)
theorem put_put (x : Nat) {qs : List Nat} (v u : Nat) (hd : qs.Nodup) : putN (putN x qs v qs.length) qs u qs.length = putN x qs u qs.length := by
  refine Nat.eq_of_testBit_eq fun i => ?_
  by_cases h : i ∈ qs
  · obtain ⟨k, hk, rfl⟩ := List.mem_iff_getElem.1 h
    rw [putN_hit _ qs _ hd _ (Nat.le_refl _) k hk, putN_hit _ qs _ hd _ (Nat.le_refl _) k hk]
  · rw [putN_off _ qs _ h _ (Nat.le_refl _), putN_off _ qs _ h _ (Nat.le_refl _), putN_off _ qs _ h _ (Nat.le_refl _)]
theorem put_lt {x n : Nat} {qs : List Nat} (v : Nat) (hx : x < 2 ^ n) (hq : ∀ q ∈ qs, q < n) : putN x qs v qs.length < 2 ^ n := by
  refine Nat.lt_pow_two_of_testBit _ fun i hi => ?_
  rw [putN_off x qs v (fun h => by have := hq i h; omega) _ (Nat.le_refl _)]
  exact Nat.testBit_lt_two_pow (Nat.lt_of_lt_of_le hx (Nat.pow_le_pow_right (by decide) hi))
/-- The entry in row v of a column. -/
def hitC (l : List Ce) (v : Nat) : Option Ce := l.find? (fun c => c.row == v)
theorem hitC_at {l : List Ce} (hd : (l.map (·.row)).Nodup) {i : Nat} (hi : i < l.length) : hitC l l[i].row = some l[i] := by
  unfold hitC
  induction l generalizing i with
  | nil => simp at hi
  | cons c l ih =>
    rw [List.map_cons, List.nodup_cons] at hd
    cases i with
    | zero => simp
    | succ i =>
      have hi' : i < l.length := by simpa using hi
      have hne : (c.row == l[i].row) = false := by
        rw [beq_eq_false_iff_ne]
        intro e
        exact hd.1 (e ▸ List.mem_map_of_mem (f := (·.row)) (List.getElem_mem hi'))
      rw [List.getElem_cons_succ, List.find?_cons, hne]
      exact ih hd.2 hi'
theorem hitC_none {l : List Ce} {v : Nat} (h : v ∉ l.map (·.row)) : hitC l v = none := by
  unfold hitC
  rw [List.find?_eq_none]
  intro c hc e
  exact h (by rw [← (by simpa using e : c.row = v)]; exact List.mem_map_of_mem (f := (·.row)) hc)
/-- What column y puts into element `tt`. -/
def contr (e : En) (rs : List Rg) (qs : List Nat) (tt y : Nat) : Rg := match hitC (e.f y) (pickN tt qs) with
  | some c => termR c.turn c.under e.ha (rs[putN tt qs y qs.length]?.getD nilR)
  | none => nilR
def accR (e : En) (rs : List Rg) (qs : List Nat) (tt : Nat) : Nat → Rg
  | 0 => nilR
  | y + 1 => addR (accR e rs qs tt y) (contr e rs qs tt y)
/-- The elements behind the gate, not yet in one form. -/
def applyR (e : En) (rs : List Rg) (qs : List Nat) : List Rg := (List.range rs.length).map fun tt => accR e rs qs tt (2 ^ e.ar)
/-- Under way: columns below y are in; of column y the elements below x, and of x the first i rows. -/
def curR (e : En) (rs : List Rg) (qs : List Nat) (y x i tt : Nat) : Rg :=
  if putN tt qs y qs.length < x ∨ (putN tt qs y qs.length = x ∧ pickN tt qs ∈ ((e.f y).take i).map (·.row)) then accR e rs qs tt (y + 1) else accR e rs qs tt y
theorem addR_nil (r : Rg) : addR r nilR = r := by
  obtain ⟨a, b, c, d⟩ := r
  simp [addR, nilR]
theorem turnG_nil (k : Int) : turnG k 0 0 = (0, 0) := by
  unfold turnG
  split
  · rfl
  · split
    · rfl
    · split <;> rfl
theorem oddR_nil : oddR nilR = nilR := rfl
theorem turnR_nil (k : Int) : turnR k nilR = nilR := by
  unfold turnR evenR
  rw [show (if k % 8 % 2 = 1 then oddR nilR else nilR) = nilR by split <;> rfl]
  simp only [nilR, turnG_nil]
theorem doubleR_nil : doubleR nilR = nilR := rfl
theorem termR_nil (j k ha : Nat) : termR j k ha nilR = nilR := by
  unfold termR
  rw [turnR_nil]
  split <;> rfl
theorem cur_start (e : En) (rs : List Rg) (qs : List Nat) (y tt : Nat) : curR e rs qs y 0 0 tt = accR e rs qs tt y := by
  unfold curR
  rw [if_neg (by simp)]
theorem cur_row (e : En) (rs : List Rg) (qs : List Nat) (y x tt : Nat) : curR e rs qs y x (e.f y).length tt = curR e rs qs y (x + 1) 0 tt := by
  unfold curR
  rw [List.take_length, List.take_zero]
  by_cases h : putN tt qs y qs.length = x
  · rw [if_pos (show putN tt qs y qs.length < x + 1 ∨ _ from .inl (by omega))]
    by_cases hm : pickN tt qs ∈ (e.f y).map (·.row)
    · rw [if_pos (.inr ⟨h, hm⟩)]
    · rw [if_neg (by simp only [not_or, not_and]; exact ⟨by omega, fun _ => hm⟩), accR, contr, hitC_none hm, addR_nil]
  · by_cases hl : putN tt qs y qs.length < x
    · rw [if_pos (.inl hl), if_pos (.inl (by omega))]
    · rw [if_neg (by simp only [not_or, not_and]; exact ⟨hl, fun e => absurd e h⟩), if_neg (by simp only [not_or, not_and]; exact ⟨by omega, fun _ => by simp⟩)]
theorem cur_far (e : En) (rs : List Rg) {qs : List Nat} {y x : Nat} (tt : Nat) (hd : qs.Nodup) (hy : y < 2 ^ qs.length) (hne : pickN x qs ≠ y) : curR e rs qs y x 0 tt = curR e rs qs y (x + 1) 0 tt := by
  have h : putN tt qs y qs.length ≠ x := fun h => hne (by rw [← h, pick_put tt hd hy])
  unfold curR
  simp only [List.take_zero, List.map_nil, List.not_mem_nil, and_false, or_false]
  by_cases hl : putN tt qs y qs.length < x
  · rw [if_pos hl, if_pos (by omega)]
  · rw [if_neg hl, if_neg (by omega)]
theorem cur_null (e : En) (rs : List Rg) {qs : List Nat} {y x : Nat} (tt : Nat) (hx : rs[x]? = some nilR) : curR e rs qs y x 0 tt = curR e rs qs y (x + 1) 0 tt := by
  unfold curR
  simp only [List.take_zero, List.map_nil, List.not_mem_nil, and_false, or_false]
  by_cases h : putN tt qs y qs.length = x
  · rw [if_neg (by omega), if_pos (by omega), accR, contr, h, hx]
    have : (match hitC (e.f y) (pickN tt qs) with | some c => termR c.turn c.under e.ha ((some nilR).getD nilR) | none => nilR) = nilR := by
      split
      · exact termR_nil _ _ _
      · rfl
    rw [this, addR_nil]
  · by_cases hl : putN tt qs y qs.length < x
    · rw [if_pos hl, if_pos (by omega)]
    · rw [if_neg hl, if_neg (by omega)]
theorem cur_end (e : En) (rs : List Rg) {qs : List Nat} {y n tt : Nat} (hto : tt < 2 ^ n) (hq : ∀ q ∈ qs, q < n) : curR e rs qs y (2 ^ n) 0 tt = curR e rs qs (y + 1) 0 0 tt := by
  rw [cur_start]
  unfold curR
  rw [if_pos (.inl (put_lt y hto hq))]
theorem cur_hit (e : En) (rs : List Rg) {qs : List Nat} {y x i : Nat} {r : Rg} (hx : rs[x]? = some r) (hd : qs.Nodup) (hp : pickN x qs = y) (hi : i < (e.f y).length) (hr : (e.f y)[i].row < 2 ^ qs.length) (hn : ((e.f y).map (·.row)).Nodup) :
    curR e rs qs y x (i + 1) (putN x qs (e.f y)[i].row qs.length) = addR (curR e rs qs y x i (putN x qs (e.f y)[i].row qs.length)) (termR (e.f y)[i].turn (e.f y)[i].under e.ha r) ∧ curR e rs qs y x i (putN x qs (e.f y)[i].row qs.length) = accR e rs qs (putN x qs (e.f y)[i].row qs.length) y := by
  have h1 : putN (putN x qs (e.f y)[i].row qs.length) qs y qs.length = x := by rw [put_put _ _ _ hd, ← hp, put_pick x hd]
  have h2 : pickN (putN x qs (e.f y)[i].row qs.length) qs = (e.f y)[i].row := pick_put x hd hr
  have h3 : (e.f y)[i].row ∉ ((e.f y).take i).map (·.row) := by
    have h := List.Nodup.not_mem_take hn (j := i) (by simpa using hi)
    rwa [List.getElem_map, ← List.map_take] at h
  have h4 : curR e rs qs y x i (putN x qs (e.f y)[i].row qs.length) = accR e rs qs (putN x qs (e.f y)[i].row qs.length) y := by
    unfold curR
    rw [h1, h2, if_neg (by simp only [not_or, not_and]; exact ⟨by omega, fun _ => h3⟩)]
  refine ⟨?_, h4⟩
  rw [h4]
  unfold curR
  rw [h1, h2, if_pos (.inr ⟨rfl, by rw [List.take_add_one, List.getElem?_eq_getElem hi, List.map_append, List.mem_append]; exact .inr (List.mem_singleton.2 rfl)⟩), accR, contr, h1, h2, hitC_at hn hi, hx]
  rfl
theorem cur_miss (e : En) (rs : List Rg) {qs : List Nat} {y x i tt : Nat} (hd : qs.Nodup) (hi : i < (e.f y).length) (hne : tt ≠ putN x qs (e.f y)[i].row qs.length) : curR e rs qs y x (i + 1) tt = curR e rs qs y x i tt := by
  unfold curR
  by_cases h : putN tt qs y qs.length = x
  · have h1 : pickN tt qs ≠ (e.f y)[i].row := fun h2 => hne (by rw [← h, ← h2, put_put _ _ _ hd, put_pick tt hd])
    have h2 : pickN tt qs ∈ ((e.f y).take (i + 1)).map (·.row) ↔ pickN tt qs ∈ ((e.f y).take i).map (·.row) := by
      rw [List.take_add_one, List.getElem?_eq_getElem hi, List.map_append, List.mem_append]
      constructor
      · rintro (h | h)
        · exact h
        · simp at h; exact absurd h h1
      · exact .inl
    simp only [h2]
  · simp only [h, false_and]
/-- Bounded elements. -/
structure Bd (m : Nat) (r : Rg) : Prop where
  a : r.a.natAbs ≤ m
  b : r.b.natAbs ≤ m
  c : r.c.natAbs ≤ m
  d : r.d.natAbs ≤ m
theorem Bd.pt {m : Nat} {r : Rg} (h : Bd m r) (hm : m < 2 ^ 53) : r.Pt := ⟨Nat.lt_of_le_of_lt h.a hm, Nat.lt_of_le_of_lt h.b hm, Nat.lt_of_le_of_lt h.c hm, Nat.lt_of_le_of_lt h.d hm⟩
theorem Bd.mono {m k : Nat} {r : Rg} (h : Bd m r) (hk : m ≤ k) : Bd k r := ⟨Nat.le_trans h.a hk, Nat.le_trans h.b hk, Nat.le_trans h.c hk, Nat.le_trans h.d hk⟩
theorem Bd.nil (m : Nat) : Bd m nilR := ⟨Nat.zero_le _, Nat.zero_le _, Nat.zero_le _, Nat.zero_le _⟩
theorem Bd.one {m : Nat} (h : 1 ≤ m) : Bd m oneR := ⟨h, Nat.zero_le _, Nat.zero_le _, Nat.zero_le _⟩
theorem Bd.add {m k : Nat} {r s : Rg} (h : Bd m r) (h' : Bd k s) : Bd (m + k) (addR r s) :=
  ⟨Nat.le_trans (Int.natAbs_add_le _ _) (Nat.add_le_add h.a h'.a), Nat.le_trans (Int.natAbs_add_le _ _) (Nat.add_le_add h.b h'.b), Nat.le_trans (Int.natAbs_add_le _ _) (Nat.add_le_add h.c h'.c), Nat.le_trans (Int.natAbs_add_le _ _) (Nat.add_le_add h.d h'.d)⟩
theorem turnG_bd {k a b : Int} {m : Nat} (ha : a.natAbs ≤ m) (hb : b.natAbs ≤ m) : (turnG k a b).1.natAbs ≤ m ∧ (turnG k a b).2.natAbs ≤ m := by
  unfold turnG
  split
  · exact ⟨by rw [Int.natAbs_neg]; exact hb, ha⟩
  · split
    · exact ⟨by rw [Int.natAbs_neg]; exact ha, by rw [Int.natAbs_neg]; exact hb⟩
    · split
      · exact ⟨hb, by rw [Int.natAbs_neg]; exact ha⟩
      · exact ⟨ha, hb⟩
theorem Bd.turn {m : Nat} {r : Rg} (h : Bd m r) (k : Int) : Bd m (turnR k r) := by
  have h1 : Bd m (if k % 8 % 2 = 1 then oddR r else r) := by
    split
    · exact ⟨by show (-r.d).natAbs ≤ m; rw [Int.natAbs_neg]; exact h.d, h.c, h.a, h.b⟩
    · exact h
  exact ⟨(turnG_bd h1.a h1.b).1, (turnG_bd h1.a h1.b).2, (turnG_bd h1.c h1.d).1, (turnG_bd h1.c h1.d).2⟩
theorem Bd.double {m : Nat} {r : Rg} (h : Bd m r) : Bd (2 * m) (doubleR r) := by
  obtain ⟨h1, h2, h3, h4⟩ := h
  refine ⟨?_, ?_, ?_, ?_⟩ <;> simp only [doubleR] <;> omega
theorem Bd.halve {m : Nat} {r : Rg} (h : Bd m r) : Bd m (halveR r) := by
  obtain ⟨h1, h2, h3, h4⟩ := h
  refine ⟨?_, ?_, ?_, ?_⟩ <;> simp only [halveR] <;> omega
theorem Bd.term {m j k ha : Nat} {r : Rg} (h : Bd m r) : Bd (m * (if k < ha then 2 else 1)) (termR j k ha r) := by
  unfold termR
  split
  · rw [Nat.mul_comm]
    exact (h.turn _).double
  · rw [Nat.mul_one]
    exact h.turn _
def hitW (e : En) (v y : Nat) : Nat := match hitC (e.f y) v with
  | some c => if c.under < e.ha then 2 else 1
  | none => 0
def sumW (e : En) (v : Nat) : Nat → Nat
  | 0 => 0
  | y + 1 => sumW e v y + hitW e v y
theorem sumW_mono (e : En) (v : Nat) {y z : Nat} (h : y ≤ z) : sumW e v y ≤ sumW e v z := by
  induction h with
  | refl => exact Nat.le_refl _
  | step _ ih => exact Nat.le_trans ih (Nat.le_add_right _ _)
theorem sumW_le : ∀ e ∈ gates, ∀ v < 8, sumW e v (2 ^ e.ar) ≤ 2 ^ e.ha := by decide +kernel
theorem rows_nodup : ∀ e ∈ gates, ∀ y < 8, ((e.f y).map (·.row)).Nodup := by decide +kernel
theorem rows_lt : ∀ e ∈ gates, ∀ y < 2 ^ e.ar, ∀ c ∈ e.f y, c.row < 2 ^ e.ar ∧ c.turn < 8 ∧ c.under < 2 := by decide +kernel
theorem ha_le : ∀ e ∈ gates, e.ha ≤ 1 := by decide +kernel
theorem accR_bd (e : En) {rs : List Rg} {m : Nat} (qs : List Nat) (tt : Nat) (h : ∀ r ∈ rs, Bd m r) : ∀ y, Bd (m * sumW e (pickN tt qs) y) (accR e rs qs tt y)
  | 0 => Bd.nil _
  | y + 1 => by
    rw [accR, sumW, Nat.mul_add]
    refine (accR_bd e qs tt h y).add ?_
    unfold contr hitW
    split
    · have hb : Bd m (rs[putN tt qs y qs.length]?.getD nilR) := by
        cases hr : rs[putN tt qs y qs.length]? with
        | none => exact Bd.nil _
        | some r => exact h r (List.mem_of_getElem? hr)
      exact hb.term
    · exact Bd.nil _
theorem acc_bd {e : En} (he : e ∈ gates) {rs : List Rg} {m : Nat} {qs : List Nat} (hl : qs.length = e.ar) (tt : Nat) (h : ∀ r ∈ rs, Bd m r) {y : Nat} (hy : y ≤ 2 ^ e.ar) : Bd (m * 2 ^ e.ha) (accR e rs qs tt y) := by
  have har := ar_le e he
  have hv : pickN tt qs < 8 := Nat.lt_of_lt_of_le (pickN_lt tt qs) (by rw [hl]; exact Nat.pow_le_pow_right (n := 2) (by decide) har.2)
  exact (accR_bd e qs tt h y).mono (Nat.mul_le_mul_left _ (Nat.le_trans (sumW_mono e _ hy) (sumW_le e he _ hv)))
theorem cur_bd {e : En} (he : e ∈ gates) {rs : List Rg} {m : Nat} {qs : List Nat} (hl : qs.length = e.ar) (x i tt : Nat) (h : ∀ r ∈ rs, Bd m r) {y : Nat} (hy : y < 2 ^ e.ar) : Bd (m * 2 ^ e.ha) (curR e rs qs y x i tt) := by
  unfold curR
  split
  · exact acc_bd he hl tt h hy
  · exact acc_bd he hl tt h (Nat.le_of_lt hy)
theorem term_bd {e : En} (he : e ∈ gates) {m : Nat} {r : Rg} (h : Bd m r) (c : Ce) : Bd (m * 2 ^ e.ha) (termR c.turn c.under e.ha r) := by
  have h1 : (if c.under < e.ha then 2 else 1) ≤ 2 ^ e.ha := by
    have := ha_le e he
    have h3 : e.ha = 0 ∨ e.ha = 1 := by omega
    rcases h3 with h | h <;> rw [h] <;> split <;> omega
  exact h.term.mono (Nat.mul_le_mul_left _ h1)
theorem turn_bd {e : En} {m : Nat} {r : Rg} (h : Bd m r) (c : Ce) (hu : c.under < e.ha) : Bd (m * 2 ^ e.ha) (doubleR (turnR c.turn r)) := by
  refine (h.turn _).double.mono ?_
  rw [Nat.mul_comm 2]
  exact Nat.mul_le_mul_left _ (by have : 2 ^ 1 ≤ 2 ^ e.ha := Nat.pow_le_pow_right (by decide) (by omega); omega)
end Go.Proofs.YtlobgpgdknjhlaaGreat.WH
