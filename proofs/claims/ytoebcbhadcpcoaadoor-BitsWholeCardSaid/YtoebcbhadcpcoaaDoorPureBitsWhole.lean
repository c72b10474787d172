/- BitsWhole: all Of(n, ..) together are all numbers below 2^n, each once, and Of(n, k) as many as Of(n, n - k). -/
import Derived.Test.YtoebcbhadcpcoaaDoorPureBitsBack
import Derived.Test.YtoebcbhadcpcoaaDoorPAx6
namespace Go.Proofs.YtoebcbhadcpcoaaDoor.Pure
open Go.RowKit Go.Proofs.YtoebcbhadcpcoaaDoor.PA Go.Proofs.YtoebcbhadcpcoaaDoor.B Go.Proofs.YtoebcbhadcpcoaaDoorW.PrintWords Go.Proofs.YtoebcbhadcpcoaaDoorW.PrintLast Go.Proofs.YtoebcbhadcpcoaaDoorW.PrintMore
set_option linter.unusedVariables false
set_option linter.unusedSimpArgs false
attribute [local irreducible] pc
theorem count_ev {x : Nat} (hx : x < 2 ^ 64) : bits_Count.f (x : Int) = some ((pc 64 x : Nat) : Int) := by
  unfold bits_Count.f
  rw [count_n hx, Option.bind_some]
/-- The numbers below N with c ones. -/
def ofN (c N : Nat) : List Nat := (List.range N).filter (fun t => decide (pc 64 t = c))
def ofL (c N : Nat) : List Int := (ofN c N).map (fun (n : Nat) => (n : Int))
theorem ofN_succ (c N : Nat) : ofN c (N + 1) = ofN c N ++ (if pc 64 N = c then [N] else []) := by
  unfold ofN
  rw [List.range_succ, List.filter_append]
  by_cases h : pc 64 N = c
  · rw [if_pos h, List.filter_cons, decide_eq_true h]
    simp
  · rw [if_neg h, List.filter_cons, decide_eq_false h]
    simp
theorem ofN_length (c N : Nat) : (ofN c N).length ≤ N := by
  unfold ofN
  have := List.length_filter_le (fun t => decide (pc 64 t = c)) (List.range N)
  rw [List.length_range] at this
  exact this
theorem of_loop (c N : Nat) (hN : N ≤ 65536) : ∀ (n i : Nat), N - i ≤ n → i ≤ N → Ev (fun k => bits_Of.l0 k (c : Int) (ofL c i) (N : Int) (i : Int)) (ofL c N, 0) := by
  have fin : ∀ i : Nat, i = N → Ev (fun k => bits_Of.l0 k (c : Int) (ofL c i) (N : Int) (i : Int)) (ofL c N, 0) := by
    intro i hi
    subst hi
    refine Ev.step (f := fun _ => some (ofL c i, 0)) (fun k => ?_) (Ev.now _)
    simp only [bits_Of.l0]
    rw [if_neg (by omega)]
  intro n
  induction n with
  | zero => intro i h1 h2; exact fin i (by omega)
  | succ n ih =>
    intro i h1 h2
    by_cases hi : i < N
    · refine Ev.step (fun k => ?_) (ih (i + 1) (by omega) (by omega))
      have hw : IntKind.u64.wrap ((i : Int) + 1) = ((i + 1 : Nat) : Int) := by
        rw [show (i : Int) + 1 = ((i + 1 : Nat) : Int) by omega]
        exact wrapn (by omega)
      have hlen : (ofL c i).length < 17592186044416 := by
        unfold ofL
        rw [List.length_map]
        have := ofN_length c i
        omega
      simp only [bits_Of.l0]
      rw [if_pos (by omega), count_ev (show i < 2 ^ 64 by omega)]
      rw [Option.bind_some, hw]
      by_cases h : pc 64 i = c
      · have e : ofL c (i + 1) = ofL c i ++ [(i : Int)] := by
          unfold ofL
          rw [ofN_succ, if_pos h, List.map_append]
          rfl
        rw [if_pos (by rw [h]), if_pos hlen, e]
      · have e : ofL c (i + 1) = ofL c i := by
          unfold ofL
          rw [ofN_succ, if_neg h, List.append_nil]
        rw [if_neg (by omega), e]
    · exact fin i (by omega)
theorem pow_le {m : Nat} (hm : m ≤ 12) : 2 ^ m ≤ 4096 := Nat.pow_le_pow_right (n := 2) (by decide) hm
theorem of_ev {m c : Nat} (hm : m ≤ 12) (hc : c ≤ m) : Ev (fun k => bits_Of.f k (m : Int) (c : Int)) (ofL c (2 ^ m), 0) := by
  have h0 : Ev (fun k => bits_Of.j0 k (m : Int) (c : Int) false) (ofL c (2 ^ m), 0) := by
    have := pow_le hm
    refine Ev.step (fun k => ?_) (of_loop c (2 ^ m) (by omega) (2 ^ m) 0 (Nat.sub_le _ _) (Nat.zero_le _))
    simp only [bits_Of.j0, Bool.false_eq_true, if_false]
    rw [if_pos (by omega), one_shl (by omega)]
    rfl
  unfold bits_Of.f
  refine Ev.congr (fun k => ?_) h0
  rw [if_neg (by omega), if_neg (by omega), if_neg (by omega), decide_eq_false (by omega)]
/-- How many. -/
def cnt (m c : Nat) : Nat := (ofN c (2 ^ m)).length
theorem pc_high {m t : Nat} (hm : m < 64) (ht : t < 2 ^ m) : pc 64 (2 ^ m + t) = pc 64 t + 1 := by
  have e : 2 ^ m + t = t ||| 2 ^ m := by
    have := Nat.two_pow_add_eq_or_of_lt ht 1
    rw [Nat.mul_one] at this
    rw [this, Nat.or_comm]
  rw [e, pc_pcs, pc_pcs, pcs_or (Nat.testBit_lt_two_pow ht), if_pos hm]
theorem cnt_succ {m : Nat} (hm : m < 64) (c : Nat) : cnt (m + 1) (c + 1) = cnt m (c + 1) + cnt m c := by
  unfold cnt ofN
  rw [Nat.pow_succ, Nat.mul_two, List.range_add, List.filter_append, List.length_append, List.filter_map, List.length_map]
  congr 2
  refine List.filter_congr (fun t ht => ?_)
  rw [List.mem_range] at ht
  show decide (pc 64 (2 ^ m + t) = c + 1) = decide (pc 64 t = c)
  rw [pc_high hm ht]
  by_cases h : pc 64 t = c
  · rw [decide_eq_true h, decide_eq_true (by omega)]
  · rw [decide_eq_false h, decide_eq_false (by omega)]
theorem cnt_zero {m : Nat} (hm : m < 64) : cnt (m + 1) 0 = cnt m 0 := by
  unfold cnt ofN
  rw [Nat.pow_succ, Nat.mul_two, List.range_add, List.filter_append, List.length_append, List.filter_map, List.length_map]
  have : (List.range (2 ^ m)).filter ((fun t => decide (pc 64 t = 0)) ∘ fun x => 2 ^ m + x) = [] := by
    rw [List.filter_eq_nil_iff]
    intro t ht
    rw [List.mem_range] at ht
    show ¬ decide (pc 64 (2 ^ m + t) = 0) = true
    rw [pc_high hm ht, decide_eq_false (by omega)]
    decide
  rw [this, List.length_nil, Nat.add_zero]
theorem pc_0 : pc 64 0 = 0 := by decide +kernel
theorem cnt_base (c : Nat) : cnt 0 c = if c = 0 then 1 else 0 := by
  unfold cnt ofN
  have : List.range (2 ^ 0) = [0] := rfl
  rw [this, List.filter_cons, pc_0]
  by_cases h : c = 0
  · subst h
    rfl
  · rw [if_neg h, decide_eq_false (by omega)]
    rfl
theorem cnt_big : ∀ (m : Nat), m ≤ 64 → ∀ c, m < c → cnt m c = 0
  | 0, _, c, h => by rw [cnt_base, if_neg (by omega)]
  | m + 1, hm, 0, h => by omega
  | m + 1, hm, c + 1, h => by rw [cnt_succ (by omega), cnt_big m (by omega) _ (by omega), cnt_big m (by omega) _ (by omega)]
theorem cnt_sym : ∀ (m : Nat), m ≤ 64 → ∀ c, c ≤ m → cnt m c = cnt m (m - c)
  | 0, _, c, h => by
    obtain rfl : c = 0 := by omega
    rfl
  | m + 1, hm, 0, h => by
    rw [cnt_zero (by omega), Nat.sub_zero, cnt_succ (by omega), cnt_big m (by omega) (m + 1) (by omega), cnt_sym m (by omega) 0 (by omega), Nat.sub_zero, Nat.zero_add]
  | m + 1, hm, c + 1, h => by
    rw [cnt_succ (by omega), show m + 1 - (c + 1) = m - c by omega]
    by_cases hc : c = m
    · subst hc
      rw [Nat.sub_self, cnt_zero (by omega), cnt_big c (by omega) (c + 1) (by omega), cnt_sym c (by omega) c (Nat.le_refl _), Nat.sub_self, Nat.zero_add]
    · rw [show m - c = (m - (c + 1)) + 1 by omega, cnt_succ (by omega), cnt_sym m (by omega) (c + 1) (by omega), cnt_sym m (by omega) c (by omega), show m - (c + 1) + 1 = m - c by omega, Nat.add_comm]
theorem pc_le_of {m t : Nat} (hm : m ≤ 64) (ht : t < 2 ^ m) : pc 64 t ≤ m := by
  rcases Nat.lt_or_ge m (pc 64 t) with h | h
  · exfalso
    have := cnt_big m hm _ h
    unfold cnt at this
    have hn := List.length_eq_zero_iff.mp this
    have hmem : t ∈ ofN (pc 64 t) (2 ^ m) := by
      unfold ofN
      rw [List.mem_filter, List.mem_range]
      exact ⟨ht, decide_eq_true rfl⟩
    rw [hn] at hmem
    cases hmem
  · exact h
/-- What was seen, and how many. -/
def seen (N c : Nat) (l : List Nat) : List Bool := (List.range N).map (fun t => decide (pc 64 t < c) || decide (t ∈ l))
theorem seen_length (N c : Nat) (l : List Nat) : (seen N c l).length = N := by unfold seen; rw [List.length_map, List.length_range]
theorem seen_get (N c : Nat) (l : List Nat) (t : Nat) (h : t < (seen N c l).length) : (seen N c l)[t] = (decide (pc 64 t < c) || decide (t ∈ l)) := by
  have h' : t < ((List.range N).map (fun t => decide (pc 64 t < c) || decide (t ∈ l))).length := h
  show ((List.range N).map (fun t => decide (pc 64 t < c) || decide (t ∈ l)))[t] = _
  rw [List.getElem_map, List.getElem_range]
theorem seen_rd {N c : Nat} {l : List Nat} {t : Nat} (h : t < N) : rdOf false (seen N c l) (t : Int) = (decide (pc 64 t < c) || decide (t ∈ l)) := by
  have h' : t < (seen N c l).length := by rw [seen_length]; exact h
  unfold rdOf
  rw [Int.toNat_natCast, List.getD_eq_getElem?_getD, List.getElem?_eq_getElem h']
  exact seen_get N c l t h'
theorem seen_set (N c : Nat) (l : List Nat) (x : Nat) : (seen N c l).set x true = seen N c (l ++ [x]) := by
  refine List.ext_getElem (by rw [List.length_set, seen_length, seen_length]) (fun t h1 h2 => ?_)
  rw [List.getElem_set, seen_get N c (l ++ [x])]
  by_cases h : x = t
  · rw [if_pos h, h, decide_eq_true (show t ∈ l ++ [t] by simp), Bool.or_true]
  · rw [if_neg h, seen_get N c l]
    congr 1
    by_cases hl : t ∈ l
    · rw [decide_eq_true hl, decide_eq_true (by simp [hl])]
    · rw [decide_eq_false hl, decide_eq_false (by simp [hl]; exact fun e => h e.symm)]
theorem seen_next (N c : Nat) : seen N c (ofN c N) = seen N (c + 1) [] := by
  refine List.ext_getElem (by rw [seen_length, seen_length]) (fun t h1 h2 => ?_)
  rw [seen_get N c, seen_get N (c + 1)]
  rw [seen_length] at h1
  have hm : t ∈ ofN c N ↔ pc 64 t = c := by
    unfold ofN
    rw [List.mem_filter, List.mem_range, decide_eq_true_iff]
    exact ⟨fun h => h.2, fun h => ⟨h1, h⟩⟩
  have hn : decide (t ∈ ([] : List Nat)) = false := by simp
  rw [hn, Bool.or_false]
  by_cases h : pc 64 t = c
  · rw [decide_eq_true (hm.mpr h), Bool.or_true, decide_eq_true (by omega)]
  · rw [decide_eq_false (fun h' => h (hm.mp h')), Bool.or_false]
    by_cases h3 : pc 64 t < c
    · rw [decide_eq_true h3, decide_eq_true (by omega)]
    · rw [decide_eq_false h3, decide_eq_false (by omega)]
def upto (N c : Nat) : Nat := ((List.range N).filter (fun t => decide (pc 64 t < c))).length
theorem upto_next (N c : Nat) : upto N (c + 1) = upto N c + (ofN c N).length := by
  unfold upto ofN
  induction N with
  | zero => rfl
  | succ N ih =>
    rw [List.range_succ, List.filter_append, List.filter_append, List.filter_append, List.length_append, List.length_append, List.length_append, ih]
    have one : ∀ p : Nat → Bool, ([N].filter p).length = if p N then 1 else 0 := by
      intro p
      rw [List.filter_cons]
      cases p N <;> rfl
    rw [one, one, one]
    by_cases h : pc 64 N = c
    · rw [decide_eq_true h, decide_eq_true (show pc 64 N < c + 1 by omega), decide_eq_false (show ¬ pc 64 N < c by omega)]
      simp only [if_true, Bool.false_eq_true, if_false]
      omega
    · rw [decide_eq_false h]
      by_cases h3 : pc 64 N < c
      · rw [decide_eq_true h3, decide_eq_true (show pc 64 N < c + 1 by omega)]
        simp only [if_true, Bool.false_eq_true, if_false]
        omega
      · rw [decide_eq_false h3, decide_eq_false (show ¬ pc 64 N < c + 1 by omega)]
        simp only [if_true, Bool.false_eq_true, if_false]
        omega
theorem upto_zero (N : Nat) : upto N 0 = 0 := by
  unfold upto
  rw [List.length_eq_zero_iff, List.filter_eq_nil_iff]
  intro t ht
  rw [decide_eq_false (by omega)]
  decide
theorem upto_all {m : Nat} (hm : m ≤ 64) : upto (2 ^ m) (m + 1) = 2 ^ m := by
  unfold upto
  have : (List.range (2 ^ m)).filter (fun t => decide (pc 64 t < m + 1)) = List.range (2 ^ m) := by
    rw [List.filter_eq_self]
    intro t ht
    rw [List.mem_range] at ht
    have := pc_le_of hm ht
    exact decide_eq_true (by omega)
  rw [this, List.length_range]
theorem upto_le (N c : Nat) : upto N c ≤ N := by
  unfold upto
  have := List.length_filter_le (fun t => decide (pc 64 t < c)) (List.range N)
  rw [List.length_range] at this
  exact this
theorem ofN_at {c N i : Nat} (hi : i < (ofN c N).length) : (ofN c N).getD i 0 < N ∧ pc 64 ((ofN c N).getD i 0) = c := by
  have := getD_mem hi
  unfold ofN at this
  rw [List.mem_filter, List.mem_range, decide_eq_true_iff] at this
  exact this
theorem ofN_lt {c N i j : Nat} (hij : i < j) (hj : j < (ofN c N).length) : (ofN c N).getD i 0 < (ofN c N).getD j 0 := by
  have hp : (ofN c N).Pairwise (· < ·) := by
    unfold ofN
    exact List.Pairwise.filter _ List.pairwise_lt_range
  rw [List.pairwise_iff_getElem] at hp
  rw [List.getD_eq_getElem?_getD, List.getD_eq_getElem?_getD, List.getElem?_eq_getElem hj, List.getElem?_eq_getElem (show i < (ofN c N).length by omega)]
  exact hp i j (by omega) hj hij
theorem ofN_new {c N i : Nat} (hi : i < (ofN c N).length) : (ofN c N).getD i 0 ∉ (ofN c N).take i := by
  intro h
  obtain ⟨j, hj, e⟩ := List.mem_iff_getElem.mp h
  rw [List.length_take] at hj
  rw [List.getElem_take] at e
  have := ofN_lt (c := c) (N := N) (i := j) (j := i) (by omega) hi
  rw [← e, List.getD_eq_getElem?_getD, List.getElem?_eq_getElem (show j < (ofN c N).length by omega)] at this
  exact absurd this (Nat.lt_irrefl _)
theorem shl_i64 {m : Nat} (hm : m ≤ 12) : shl .i64 1 (m : Int) = ((2 ^ m : Nat) : Int) := by
  have : ∀ m : Fin 13, shl .i64 1 ((m.1 : Nat) : Int) = ((2 ^ m.1 : Nat) : Int) := by decide +kernel
  exact this ⟨m, by omega⟩
theorem inner {m c : Nat} (hm : m ≤ 12) (hc : c ≤ m) (next : Ev (fun k => cubitlaw03_BitsWhole.l0 k (m : Int) (seen (2 ^ m) (c + 1) []) ((upto (2 ^ m) (c + 1) : Nat) : Int) ((c + 1 : Nat) : Int)) true) :
    ∀ (n i : Nat), (ofN c (2 ^ m)).length - i ≤ n → i ≤ (ofN c (2 ^ m)).length → Ev (fun k => cubitlaw03_BitsWhole.l1 k (m : Int) (seen (2 ^ m) c ((ofN c (2 ^ m)).take i)) ((upto (2 ^ m) c + i : Nat) : Int) (c : Int) (ofL c (2 ^ m)) (i : Int)) true := by
  have hN := pow_le hm
  have hL := ofN_length c (2 ^ m)
  have hU := upto_le (2 ^ m) c
  have hlen : (ofL c (2 ^ m)).length = (ofN c (2 ^ m)).length := by unfold ofL; rw [List.length_map]
  have hwm : IntKind.u64.wrap (m : Int) = (m : Int) := wrapn (by omega)
  have fin : ∀ i : Nat, i = (ofN c (2 ^ m)).length → Ev (fun k => cubitlaw03_BitsWhole.l1 k (m : Int) (seen (2 ^ m) c ((ofN c (2 ^ m)).take i)) ((upto (2 ^ m) c + i : Nat) : Int) (c : Int) (ofL c (2 ^ m)) (i : Int)) true := by
    intro i hi
    subst hi
    refine Ev.step (fun k => ?_) next
    simp only [cubitlaw03_BitsWhole.l1]
    rw [hlen, if_neg (by omega), List.take_length, seen_next, upto_next, w1n (n := 13) (by omega) (by decide)]
  intro n
  induction n with
  | zero => intro i h1 h2; exact fin i (by omega)
  | succ n ih =>
    intro i h1 h2
    by_cases hi : i < (ofN c (2 ^ m)).length
    · obtain ⟨hx, hp⟩ := ofN_at hi
      have hnew := ofN_new hi
      have hrd : rd (ofL c (2 ^ m)) (i : Int) = (((ofN c (2 ^ m)).getD i 0 : Nat) : Int) := rd_map _ i hi
      have htk : (ofN c (2 ^ m)).take (i + 1) = (ofN c (2 ^ m)).take i ++ [(ofN c (2 ^ m)).getD i 0] := by
        rw [List.take_succ_eq_append_getElem hi, List.getD_eq_getElem?_getD, List.getElem?_eq_getElem hi]
        rfl
      have hw : wrap64 (((upto (2 ^ m) c + i : Nat) : Int) + 1) = ((upto (2 ^ m) c + (i + 1) : Nat) : Int) := by unfold wrap64; omega
      refine Ev.step (fun k => ?_) (ih (i + 1) (by omega) (by omega))
      have hlt : (i : Int) < ((ofN c (2 ^ m)).length : Int) := by omega
      have hunseen : rdOf false (seen (2 ^ m) c ((ofN c (2 ^ m)).take i)) (((ofN c (2 ^ m)).getD i 0 : Nat) : Int) = false := by
        rw [seen_rd hx, hp, decide_eq_false (Nat.lt_irrefl c), decide_eq_false hnew]
        rfl
      have hcount : bits_Count.f (((ofN c (2 ^ m)).getD i 0 : Nat) : Int) = some (c : Int) := by
        rw [count_ev (by omega), hp]
      have hset : (seen (2 ^ m) c ((ofN c (2 ^ m)).take i)).set ((((ofN c (2 ^ m)).getD i 0 : Nat) : Int)).toNat true = seen (2 ^ m) c ((ofN c (2 ^ m)).take (i + 1)) := by
        rw [Int.toNat_natCast, seen_set, htk]
      have hsl := seen_length (2 ^ m) c ((ofN c (2 ^ m)).take i)
      have hprev : 0 < i → wrap64 ((i : Int) - 1) = ((i - 1 : Nat) : Int) ∧ ¬ ((((ofN c (2 ^ m)).getD i 0 : Nat) : Int) ≤ rd (ofL c (2 ^ m)) ((i - 1 : Nat) : Int)) := by
        intro h0
        refine ⟨by unfold wrap64; omega, ?_⟩
        have := ofN_lt (c := c) (N := 2 ^ m) (i := i - 1) (j := i) (by omega) hi
        rw [show rd (ofL c (2 ^ m)) ((i - 1 : Nat) : Int) = (((ofN c (2 ^ m)).getD (i - 1) 0 : Nat) : Int) from rd_map _ (i - 1) (by omega)]
        omega
      generalize hg : (ofN c (2 ^ m)).getD i 0 = x at *
      simp only [cubitlaw03_BitsWhole.l1]
      rw [hlen, if_pos hlt, if_pos (by omega), hwm, if_pos (by omega), hrd, one_shl (by omega), if_neg (by omega), if_pos (by omega), hsl, if_pos (by omega), hunseen, if_neg (by decide)]
      by_cases h0 : 0 < i
      · obtain ⟨h3, h4⟩ := hprev h0
        rw [if_pos (by omega), h3, if_pos (by omega), if_pos (by omega), if_neg h4, hcount]
        rw [Option.bind_some, if_pos rfl, hset, hw, w1n hi (by omega)]
      · rw [if_neg (by omega), hcount]
        rw [Option.bind_some, if_pos rfl, hset, hw, w1n hi (by omega)]
    · exact fin i (by omega)
theorem outer {m : Nat} (hm : m ≤ 12) : ∀ (n c : Nat), m + 1 - c ≤ n → c ≤ m + 1 → Ev (fun k => cubitlaw03_BitsWhole.l0 k (m : Int) (seen (2 ^ m) c []) ((upto (2 ^ m) c : Nat) : Int) (c : Int)) true := by
  have hwm : IntKind.u64.wrap (m : Int) = (m : Int) := wrapn (by omega)
  have fin : ∀ c : Nat, c = m + 1 → Ev (fun k => cubitlaw03_BitsWhole.l0 k (m : Int) (seen (2 ^ m) c []) ((upto (2 ^ m) c : Nat) : Int) (c : Int)) true := by
    intro c hc
    subst hc
    refine Ev.step (f := fun _ => some true) (fun k => ?_) (Ev.now _)
    simp only [cubitlaw03_BitsWhole.l0]
    rw [if_neg (by omega), hwm, if_pos (by omega), shl_i64 hm, upto_all (by omega), beq_self_eq_true]
  intro n
  induction n with
  | zero => intro c h1 h2; exact fin c (by omega)
  | succ n ih =>
    intro c h1 h2
    by_cases hc : c ≤ m
    · have hi := inner hm hc (ih (c + 1) (by omega) (by omega)) _ 0 (Nat.le_refl _) (Nat.zero_le _)
      have hw : wrap64 ((m : Int) - (c : Int)) = ((m - c : Nat) : Int) := by unfold wrap64; omega
      refine Ev.step (f := fun k => (bits_Of.f k (m : Int) (c : Int)).bind fun bt173 => ((bits_Of.f k (m : Int) (wrap64 ((m : Int) - (c : Int)))).bind fun bt177 => (if bt173.2 = 0 then (if bt177.2 = 0 then (cubitlaw03_BitsWhole.j1 k (m : Int) (seen (2 ^ m) c []) ((upto (2 ^ m) c : Nat) : Int) (c : Int) bt173.1 ((bt173.1.length : Int) != (bt177.1.length : Int))) else (cubitlaw03_BitsWhole.j1 k (m : Int) (seen (2 ^ m) c []) ((upto (2 ^ m) c : Nat) : Int) (c : Int) bt173.1 true)) else (cubitlaw03_BitsWhole.j1 k (m : Int) (seen (2 ^ m) c []) ((upto (2 ^ m) c : Nat) : Int) (c : Int) bt173.1 true)))) (fun k => ?_) ?_
      · simp only [cubitlaw03_BitsWhole.l0]
        rw [if_pos (by omega)]
      · refine Ev.bind (of_ev hm hc) ?_
        rw [hw]
        refine Ev.bind (of_ev hm (show m - c ≤ m by omega)) ?_
        simp only [if_true]
        have hs := cnt_sym m (by omega) c hc
        have e : (((ofL c (2 ^ m)).length : Int) != ((ofL (m - c) (2 ^ m)).length : Int)) = false := by
          unfold ofL
          rw [List.length_map, List.length_map]
          unfold cnt at hs
          rw [hs]
          exact bne_self_eq_false _
        rw [e]
        refine Ev.step (fun k => ?_) hi
        simp only [cubitlaw03_BitsWhole.j1, Bool.false_eq_true, if_false]
        rfl
    · exact fin c (by omega)
theorem BitsWhole : cubitlaw03_BitsWhole.Pure := by
  intro a0 h0
  refine Ev.rounds (r := true) ?_
  have hb : 0 ≤ a0 ∧ a0 ≤ 255 := bounds_u8 h0
  obtain ⟨a, rfl⟩ : ∃ a : Nat, a0 = (a : Int) := ⟨a0.toNat, by omega⟩
  have hm : a % 13 ≤ 12 := by omega
  have e1 : wrap64 (Int.tmod (a : Int) 13) = ((a % 13 : Nat) : Int) := by
    rw [Int.tmod_eq_emod_of_nonneg (by omega)]
    unfold wrap64
    omega
  have hwm : IntKind.u64.wrap ((a % 13 : Nat) : Int) = ((a % 13 : Nat) : Int) := wrapn (by omega)
  have hN := pow_le hm
  have hrep : List.replicate (2 ^ (a % 13)) false = seen (2 ^ (a % 13)) 0 [] := by
    refine List.ext_getElem (by rw [seen_length, List.length_replicate]) (fun t h1 h2 => ?_)
    rw [seen_get, List.getElem_replicate, decide_eq_false (by omega)]
    simp
  unfold cubitlaw03_BitsWhole.f
  refine Ev.bind awake_ev ?_
  rw [e1, hwm, shl_i64 hm]
  simp only [if_true, Int.toNat_natCast, if_pos (show 0 ≤ ((a % 13 : Nat) : Int) by omega), if_pos (show 0 ≤ ((2 ^ (a % 13) : Nat) : Int) from Int.natCast_nonneg _), if_pos (show 2 ^ (a % 13) ≤ 281474976710656 by omega), hrep]
  have := outer hm (a % 13 + 1) 0 (by omega) (by omega)
  rw [upto_zero] at this
  exact this
end Go.Proofs.YtoebcbhadcpcoaaDoor.Pure
