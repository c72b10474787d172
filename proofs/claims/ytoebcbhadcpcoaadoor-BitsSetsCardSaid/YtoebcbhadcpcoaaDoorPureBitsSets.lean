/- BitsSets: the program's sets of a mask are the document's, as far as one goes; Of tells what the document tells, in new memory. -/
import Derived.Test.YtoebcbhadcpcoaaDoorBitE
import Derived.Test.YtoebcbhadcpcoaaDoorSubN
import Derived.Test.YtoebcbhadcpcoaaDoorSetsM
namespace Go.Proofs.YtoebcbhadcpcoaaDoor.Pure
open Go.RowKit Go.Proofs.YtoebcbhadcpcoaaDoor.PA Go.Proofs.YtoebcbhadcpcoaaDoor.B Go.Proofs.YtoebcbhadcpcoaaDoorW.PrintWords Go.Proofs.YtoebcbhadcpcoaaDoorW.PrintLast Go.Proofs.YtoebcbhadcpcoaaDoorW.PrintMore
set_option linter.unusedVariables false
set_option linter.unusedSimpArgs false
attribute [local irreducible] pc
theorem bs {α β : Type} (a : α) (f : α → Option β) : (some a).bind f = f a := by rw [Option.bind_some]
theorem awake_ev : Ev (fun k => cubitlaw03_awake.f k) true := Ev.of cubitlaw03_awake.mono (k := 40) (by decide +kernel)
theorem wn1 {i n : Nat} (h : i < n) (hn : n ≤ 9223372036854775806) : wrap64 ((i : Int) + 1) = ((i + 1 : Nat) : Int) := by
  unfold wrap64
  omega
theorem and_u64 {a b : Nat} (ha : a < 2 ^ 64) (hb : b < 2 ^ 64) : Go.bits .and .u64 (a : Int) (b : Int) = ((a &&& b : Nat) : Int) := and_u ha hb
/-- The k-th set. -/
def sq (m k : Nat) : Int := ((spr 64 m k : Nat) : Int)
theorem spr_lt {m k : Nat} (hm : m < 2 ^ 64) : spr 64 m k < 2 ^ 64 := Nat.lt_of_le_of_lt (spr_le 64 m k hm) hm
theorem mod_add (y m : Nat) (hm : m < 2 ^ 64) : (y % 2 ^ 64) &&& m = y &&& m := by
  refine Nat.eq_of_testBit_eq (fun i => ?_)
  rw [Nat.testBit_and, Nat.testBit_and, Nat.testBit_mod_two_pow]
  by_cases hi : i < 64
  · simp [hi]
  · have := Nat.testBit_lt_two_pow (Nat.lt_of_lt_of_le hm (Nat.pow_le_pow_right (n := 2) (by decide) (show 64 ≤ i by omega)))
    simp [this]
theorem sq_next {m : Nat} (hm : m < 2 ^ 64) (k : Nat) : Go.bits .and .u64 (IntKind.u64.wrap (sq m k - (m : Int))) (m : Int) = sq m (k + 1) := by
  unfold sq
  have hs := spr_le 64 m k hm
  have e : IntKind.u64.wrap (((spr 64 m k : Nat) : Int) - (m : Int)) = (((spr 64 m k + (2 ^ 64 - m)) % 2 ^ 64 : Nat) : Int) := by
    rw [wrap_u64]
    omega
  rw [e, and_u64 (Nat.mod_lt _ (by decide)) hm, mod_add _ _ hm, spr_next 64 m k hm]
theorem seq_of {m : Nat} (hm : m < 2 ^ 64) : SetSeq (m : Int) (2 ^ pc 64 m) (sq m) where
  pos := Nat.two_pow_pos _
  zero := by unfold sq; rw [spr_zero]; rfl
  next := sq_next hm
  last := fun j hj => by
    have := spr_last 64 m j hm hj
    unfold sq
    rw [← this]
    omega
/-! ### the document's sets -/
theorem setB_add {x p : Nat} {b : Bool} (hx : x < 2 ^ p) : setB x p b = x + (if b then 1 else 0) * 2 ^ p := by
  have h0 : x.testBit p = false := Nat.testBit_lt_two_pow hx
  unfold setB
  rw [h0]
  cases b with
  | false => simp
  | true =>
    rw [if_neg (by simp)]
    refine Nat.eq_of_testBit_eq (fun i => ?_)
    have := Nat.two_pow_add_eq_or_of_lt hx 1
    rw [show x + (if true = true then 1 else 0) * 2 ^ p = 2 ^ p * 1 + x by simp; omega, this]
    rw [Nat.testBit_xor, Nat.testBit_or, Nat.mul_one]
    by_cases hi : p = i
    · subst hi
      simp [h0, Nat.testBit_two_pow_self]
    · rw [Nat.testBit_two_pow_of_ne hi]
      simp
theorem set_loop {ps : List Nat} {K : Nat} (hK : K < 2 ^ 63) (x1 x8 : Int) (x7 : List Int) (h8 : x8 = (K : Int)) (hlen : ps.length ≤ 64) {r : List Int} : ∀ (suf : List Nat) (j acc : Nat), j ≤ ps.length → ps.drop j = suf → suf.Pairwise (· < ·) → (∀ p ∈ suf, p < 64 ∧ acc < 2 ^ p) → acc < 2 ^ 64 →
    Ev (fun k => cubitref03_Subsets.l2 k x1 (ps.map (fun (n : Nat) => (n : Int))) x7 x8 ((acc + val suf (K / 2 ^ j) : Nat) : Int) ((ps.length : Nat) : Int)) r →
    Ev (fun k => cubitref03_Subsets.l2 k x1 (ps.map (fun (n : Nat) => (n : Int))) x7 x8 ((acc : Nat) : Int) (j : Int)) r := by
  intro suf
  induction suf with
  | nil =>
    intro j acc hjl0 hd hs hp ha hr
    have hj : ps.length ≤ j := by
      have := congrArg List.length hd
      rw [List.length_drop, List.length_nil] at this
      omega
    obtain rfl : j = ps.length := by omega
    exact hr
  | cons p suf ih =>
    intro j acc hjl0 hd hs hp ha hr
    have hjl : j < ps.length := by
      have := congrArg List.length hd
      rw [List.length_drop, List.length_cons] at this
      omega
    have hpj : ps[j]'hjl = p := by
      have := List.drop_eq_getElem_cons hjl
      rw [hd] at this
      exact (List.cons.inj this).1.symm
    have hd' : ps.drop (j + 1) = suf := by
      have := List.drop_eq_getElem_cons hjl
      rw [hd] at this
      exact (List.cons.inj this).2.symm
    have hp0 := hp p (List.mem_cons_self ..)
    have hrd : rd (ps.map (fun (n : Nat) => (n : Int))) (j : Int) = (p : Int) := by
      unfold rd
      have : ((j : Int)).toNat = j := by simp
      rw [this, List.getD_eq_getElem?_getD, List.getElem?_map, List.getElem?_eq_getElem hjl, hpj]
      rfl
    have hbit : K.testBit j = decide (K / 2 ^ j % 2 = 1) := Nat.testBit_eq_decide_div_mod_eq
    have hlt : p < 64 := hp0.1
    have hsum : setB acc p (K.testBit j) = acc + K / 2 ^ j % 2 * 2 ^ p := by
      rw [setB_add hp0.2, hbit]
      rcases Nat.mod_two_eq_zero_or_one (K / 2 ^ j) with h | h <;> simp [h]
    have hlt2 : acc + K / 2 ^ j % 2 * 2 ^ p < 2 ^ (p + 1) := by
      have h1 := hp0.2
      rw [Nat.pow_succ]
      rcases Nat.mod_two_eq_zero_or_one (K / 2 ^ j) with h | h <;> rw [h] <;> omega
    have hacc' : setB acc p (K.testBit j) < 2 ^ 64 := setB_lt ha hlt
    refine Ev.step (fun k => ?_) (ih (j + 1) (setB acc p (K.testBit j)) hjl hd' (List.pairwise_cons.1 hs).2 (fun q hq => ?_) hacc' ?_)
    · simp only [cubitref03_Subsets.l2]
      rw [if_pos (by rw [List.length_map]; omega), if_pos (by omega), h8, wrapn (by omega), bit_n (by omega) (by omega), bs, hrd, set_n ha hlt, bs, wn1 hjl (by omega)]
    · have h1 := (List.pairwise_cons.1 hs).1 q hq
      refine ⟨(hp q (List.mem_cons_of_mem _ hq)).1, ?_⟩
      rw [hsum]
      exact Nat.lt_of_lt_of_le hlt2 (Nat.pow_le_pow_right (by decide) h1)
    · rw [hsum]
      have e : acc + K / 2 ^ j % 2 * 2 ^ p + val suf (K / 2 ^ (j + 1)) = acc + val (p :: suf) (K / 2 ^ j) := by
        rw [val, Nat.div_div_eq_div_mul, show 2 ^ j * 2 = 2 ^ (j + 1) from (Nat.pow_succ ..).symm]
        omega
      rw [e]
      exact hr
theorem shr_i64 {a q : Nat} (ha : a < 2 ^ 63) : shr .i64 (a : Int) (q : Int) = ((a >>> q : Nat) : Int) := by
  unfold shr
  have e : ((q : Int).toNat) = q := by simp
  have hb : IntKind.i64.bits = 64 := rfl
  rw [e, hb, Nat.shiftRight_eq_div_pow]
  rcases Nat.lt_or_ge q 64 with h | h
  · rw [Nat.min_eq_left (by omega)]
    push_cast
    rfl
  · rw [Nat.min_eq_right h]
    have h1 : a / 2 ^ q = 0 := Nat.div_eq_of_lt (Nat.lt_of_lt_of_le ha (Nat.le_trans (Nat.pow_le_pow_right (by decide) (show 63 ≤ 64 by decide)) (Nat.pow_le_pow_right (by decide) h)))
    rw [h1]
    omega
theorem sub_outer {m : Nat} (hm : m < 2 ^ 64) {most : Nat} (hmost : most ≤ 301) : ∀ (n K : Nat), most - K ≤ n → K ≤ most → K ≤ 2 ^ pc 64 m →
    Ev (fun k => cubitref03_Subsets.l1 k (most : Int) ((pl 64 m 0).map (fun (n : Nat) => (n : Int))) ((List.range K).map (sq m)) (K : Int)) ((List.range (min most (2 ^ pc 64 m))).map (sq m)) := by
  have hc64 : pc 64 m ≤ 64 := pc_le 64 m
  have hlen : ((pl 64 m 0).map (fun (n : Nat) => (n : Int))).length = pc 64 m := by rw [List.length_map, pl_length]
  have fin : ∀ K : Nat, K = most → K ≤ 2 ^ pc 64 m → Ev (fun k => cubitref03_Subsets.l1 k (most : Int) ((pl 64 m 0).map (fun (n : Nat) => (n : Int))) ((List.range K).map (sq m)) (K : Int)) ((List.range (min most (2 ^ pc 64 m))).map (sq m)) := by
    intro K hK h2
    subst hK
    rw [Nat.min_eq_left h2]
    refine Ev.step (f := fun _ => some ((List.range K).map (sq m))) (fun k => ?_) (Ev.now _)
    simp only [cubitref03_Subsets.l1]
    rw [if_neg (by omega)]
  intro n
  induction n with
  | zero => intro K h1 h2 h3; exact fin K (by omega) h3
  | succ n ih =>
    intro K h1 h2 h3
    by_cases hK : K < most
    · -- the next set laid
      have go : K < 2 ^ pc 64 m → Ev (fun k => cubitref03_Subsets.j2 k (most : Int) ((pl 64 m 0).map (fun (n : Nat) => (n : Int))) ((List.range K).map (sq m)) (K : Int) false) ((List.range (min most (2 ^ pc 64 m))).map (sq m)) := by
        intro hlt
        have hnext := ih (K + 1) (by omega) (by omega) (by omega)
        refine Ev.step (fun k => ?_) (set_loop (ps := pl 64 m 0) (K := K) (by omega) (most : Int) (K : Int) ((List.range K).map (sq m)) rfl (by rw [pl_length]; exact hc64) (pl 64 m 0) 0 0 (Nat.zero_le _) rfl (pl_sorted 64 m 0) (fun p hp => ⟨by have := pl_mem 64 m 0 p hp; omega, Nat.two_pow_pos _⟩) (by decide) ?_)
        · simp only [cubitref03_Subsets.j2, Bool.false_eq_true, if_false]
          rfl
        · refine Ev.step (fun k => ?_) hnext
          have hv : (((0 + val (pl 64 m 0) (K / 2 ^ 0) : Nat)) : Int) = sq m K := by
            unfold sq
            rw [Nat.zero_add, Nat.pow_zero, Nat.div_one, val_pl, Nat.pow_zero, Nat.one_mul]
          simp only [cubitref03_Subsets.l2]
          rw [if_neg (by rw [List.length_map]; omega), if_pos (by rw [List.length_map, List.length_range]; omega), hv, wn1 hK (by omega), List.range_succ, List.map_append]
          rfl
      by_cases hc : pc 64 m < 62
      · have hsh : (decide (shr .i64 (K : Int) (IntKind.u64.wrap ((pc 64 m : Nat) : Int)) > 0)) = decide (2 ^ pc 64 m ≤ K) := by
          rw [wrapn (by omega), shr_i64 (by omega), Nat.shiftRight_eq_div_pow]
          by_cases h : 2 ^ pc 64 m ≤ K
          · have := Nat.div_pos h (Nat.two_pow_pos _)
            rw [decide_eq_true h, decide_eq_true (by omega)]
          · rw [decide_eq_false h, Nat.div_eq_of_lt (by omega)]
            rfl
        by_cases h : 2 ^ pc 64 m ≤ K
        · have hKe : K = 2 ^ pc 64 m := by omega
          refine Ev.step (f := fun k => cubitref03_Subsets.j2 k (most : Int) ((pl 64 m 0).map (fun (n : Nat) => (n : Int))) ((List.range K).map (sq m)) (K : Int) true) (fun k => ?_) ?_
          · simp only [cubitref03_Subsets.l1]
            rw [if_pos (by omega), hlen, if_pos (by omega), if_pos (by rw [wrapn (by omega)]; omega), hsh, decide_eq_true h]
          · refine Ev.step (f := fun _ => some ((List.range K).map (sq m))) (fun k => ?_) ?_
            · simp only [cubitref03_Subsets.j2, if_true]
            · rw [Nat.min_eq_right (by omega), ← hKe]
              exact Ev.now _
        · refine Ev.step (fun k => ?_) (go (by omega))
          simp only [cubitref03_Subsets.l1]
          rw [if_pos (by omega), hlen, if_pos (by omega), if_pos (by rw [wrapn (by omega)]; omega), hsh, decide_eq_false h]
      · have hbig : 2 ^ 62 ≤ 2 ^ pc 64 m := Nat.pow_le_pow_right (by decide) (by omega)
        refine Ev.step (fun k => ?_) (go (by have : (2 : Nat) ^ 62 = 4611686018427387904 := rfl; omega))
        simp only [cubitref03_Subsets.l1]
        rw [if_pos (by omega), hlen, if_neg (by omega)]
    · exact fin K (by omega) h3
def pls (m i : Nat) : List Nat := (List.range i).filter (fun j => m.testBit j)
theorem pls_all (m : Nat) : pls m 64 = pl 64 m 0 := by
  rw [pl_filter]
  unfold pls
  simp
theorem sub_ev {m : Nat} (hm : m < 2 ^ 64) {most : Nat} (hmost : most ≤ 301) : Ev (fun k => cubitref03_Subsets.f k (m : Int) (most : Int)) ((List.range (min most (2 ^ pc 64 m))).map (sq m)) := by
  have hl : ∀ (n i : Nat), 64 - i ≤ n → i ≤ 64 → Ev (fun k => cubitref03_Subsets.l0 k (m : Int) (most : Int) ((pls m i).map (fun (n : Nat) => (n : Int))) (i : Int)) ((List.range (min most (2 ^ pc 64 m))).map (sq m)) := by
    have fin : ∀ i : Nat, i = 64 → Ev (fun k => cubitref03_Subsets.l0 k (m : Int) (most : Int) ((pls m i).map (fun (n : Nat) => (n : Int))) (i : Int)) ((List.range (min most (2 ^ pc 64 m))).map (sq m)) := by
      intro i hi
      subst hi
      refine Ev.step (fun k => ?_) (sub_outer hm hmost most 0 (by omega) (by omega) (Nat.zero_le _))
      simp only [cubitref03_Subsets.l0]
      rw [if_neg (by omega), pls_all]
      rfl
    intro n
    induction n with
    | zero => intro i h1 h2; exact fin i (by omega)
    | succ n ih =>
      intro i h1 h2
      by_cases hi : i < 64
      · refine Ev.step (fun k => ?_) (ih (i + 1) (by omega) (by omega))
        have hll : ((pls m i).map (fun (n : Nat) => (n : Int))).length < 17592186044416 := by
          rw [List.length_map]
          have := List.length_filter_le (fun j => m.testBit j) (List.range i)
          rw [List.length_range] at this
          unfold pls
          omega
        simp only [cubitref03_Subsets.l0]
        rw [if_pos (by omega), bit_n hm (by omega), bs, wn1 hi (by decide)]
        have e : pls m (i + 1) = pls m i ++ (if m.testBit i then [i] else []) := by
          unfold pls
          rw [List.range_succ, List.filter_append]
          cases h : m.testBit i <;> simp [h]
        cases h : m.testBit i with
        | true =>
          rw [if_pos (by rfl), if_pos hll, e, h, List.map_append]
          rfl
        | false =>
          rw [if_neg (by decide), e, h]
          simp
      · exact fin i (by omega)
  unfold cubitref03_Subsets.f
  exact hl 64 0 (by omega) (by omega)
theorem count_is {x : Nat} (hx : x < 2 ^ 64) : bits_Count.f (x : Int) = some ((pc 64 x : Nat) : Int) := by
  unfold bits_Count.f
  rw [count_n hx, Option.bind_some]
theorem refcount_loop {x : Nat} (hx : x < 2 ^ 64) : ∀ (n i : Nat), 64 - i ≤ n → i ≤ 64 → Ev (fun k => cubitref03_Count.l0 k (x : Int) ((pcs i x : Nat) : Int) (i : Int)) ((pcs 64 x : Nat) : Int) := by
  have fin : ∀ i : Nat, i = 64 → Ev (fun k => cubitref03_Count.l0 k (x : Int) ((pcs i x : Nat) : Int) (i : Int)) ((pcs 64 x : Nat) : Int) := by
    intro i hi
    subst hi
    refine Ev.step (f := fun _ => some ((pcs 64 x : Nat) : Int)) (fun k => ?_) (Ev.now _)
    simp only [cubitref03_Count.l0]
    rw [if_neg (by omega)]
  intro n
  induction n with
  | zero => intro i h1 h2; exact fin i (by omega)
  | succ n ih =>
    intro i h1 h2
    by_cases hi : i < 64
    · refine Ev.step (fun k => ?_) (ih (i + 1) (by omega) (by omega))
      have hle := pcs_le i x
      have hs : pcs (i + 1) x = pcs i x + (if x.testBit i then 1 else 0) := rfl
      have hw : wrap64 (((pcs i x : Nat) : Int) + bb (x.testBit i)) = ((pcs (i + 1) x : Nat) : Int) := by
        rw [hs, bb_nat]
        cases x.testBit i
        · simp only [Bool.false_eq_true, if_false]; unfold wrap64; omega
        · simp only [if_true]; unfold wrap64; omega
      simp only [cubitref03_Count.l0]
      rw [if_pos (by omega), bit_n hx (by omega)]
      rw [Option.bind_some, hw, wn1 hi (by decide)]
    · exact fin i (by omega)
theorem refcount_ev {x : Nat} (hx : x < 2 ^ 64) : Ev (fun k => cubitref03_Count.f k (x : Int)) ((pc 64 x : Nat) : Int) := by
  rw [pc_pcs]
  unfold cubitref03_Count.f
  exact refcount_loop hx 64 0 (by omega) (by omega)
/-- The numbers below N with c ones. -/
def ofN (c N : Nat) : List Nat := (List.range N).filter (fun t => decide (pc 64 t = c))
def ofL (c N : Nat) : List Int := (ofN c N).map (fun (n : Nat) => (n : Int))
theorem ofN_succ (c N : Nat) : ofN c (N + 1) = ofN c N ++ (if pc 64 N = c then [N] else []) := by
  unfold ofN
  rw [List.range_succ, List.filter_append]
  by_cases h : pc 64 N = c
  · rw [if_pos h, List.filter_cons, decide_eq_true h]
    simp
  · rw [if_neg h, List.filter_cons, decide_eq_false h]
    simp
theorem ofN_length (c N : Nat) : (ofN c N).length ≤ N := by
  unfold ofN
  have := List.length_filter_le (fun t => decide (pc 64 t = c)) (List.range N)
  rw [List.length_range] at this
  exact this
theorem of_loop (c N : Nat) (hN : N ≤ 65536) : ∀ (n i : Nat), N - i ≤ n → i ≤ N → Ev (fun k => bits_Of.l0 k (c : Int) (ofL c i) (N : Int) (i : Int)) (ofL c N, 0) := by
  have fin : ∀ i : Nat, i = N → Ev (fun k => bits_Of.l0 k (c : Int) (ofL c i) (N : Int) (i : Int)) (ofL c N, 0) := by
    intro i hi
    subst hi
    refine Ev.step (f := fun _ => some (ofL c i, 0)) (fun k => ?_) (Ev.now _)
    simp only [bits_Of.l0]
    rw [if_neg (by omega)]
  intro n
  induction n with
  | zero => intro i h1 h2; exact fin i (by omega)
  | succ n ih =>
    intro i h1 h2
    by_cases hi : i < N
    · refine Ev.step (fun k => ?_) (ih (i + 1) (by omega) (by omega))
      have hw : IntKind.u64.wrap ((i : Int) + 1) = ((i + 1 : Nat) : Int) := by
        rw [show (i : Int) + 1 = ((i + 1 : Nat) : Int) by omega]
        exact wrapn (by omega)
      have hlen : (ofL c i).length < 17592186044416 := by
        unfold ofL
        rw [List.length_map]
        have := ofN_length c i
        omega
      simp only [bits_Of.l0]
      rw [if_pos (by omega), count_is (show i < 2 ^ 64 by omega)]
      rw [Option.bind_some, hw]
      by_cases h : pc 64 i = c
      · have e : ofL c (i + 1) = ofL c i ++ [(i : Int)] := by
          unfold ofL
          rw [ofN_succ, if_pos h, List.map_append]
          rfl
        rw [if_pos (by rw [h]), if_pos hlen, e]
      · have e : ofL c (i + 1) = ofL c i := by
          unfold ofL
          rw [ofN_succ, if_neg h, List.append_nil]
        rw [if_neg (by omega), e]
    · exact fin i (by omega)
theorem pow16 {m : Nat} (hm : m ≤ 16) : 2 ^ m ≤ 65536 := Nat.pow_le_pow_right (n := 2) (by decide) hm
theorem bitsof_ev {m c : Nat} (hm : m ≤ 16) : Ev (fun k => bits_Of.j0 k (m : Int) (c : Int) false) (ofL c (2 ^ m), 0) := by
  have := pow16 hm
  refine Ev.step (fun k => ?_) (of_loop c (2 ^ m) (by omega) (2 ^ m) 0 (Nat.sub_le _ _) (Nat.zero_le _))
  simp only [bits_Of.j0, Bool.false_eq_true, if_false]
  rw [if_pos (by omega), one_shl (by omega)]
  rfl
theorem refof_loop {m : Nat} (c : Nat) (hm : m ≤ 16) : ∀ (n i : Nat), 2 ^ m - i ≤ n → i ≤ 2 ^ m → Ev (fun k => cubitref03_Of.l0 k (m : Int) (c : Int) (ofL c i) (i : Int)) (ofL c (2 ^ m), 0) := by
  have hp := pow16 hm
  have hsh : shl .u64 1 (IntKind.u64.wrap (m : Int)) = ((2 ^ m : Nat) : Int) := by rw [wrapn (by omega), one_shl (by omega)]
  have hw0 : 0 ≤ IntKind.u64.wrap (m : Int) := by rw [wrapn (by omega)]; omega
  have fin : ∀ i : Nat, i = 2 ^ m → Ev (fun k => cubitref03_Of.l0 k (m : Int) (c : Int) (ofL c i) (i : Int)) (ofL c (2 ^ m), 0) := by
    intro i hi
    refine Ev.step (f := fun _ => some (ofL c i, 0)) (fun k => ?_) (by rw [hi]; exact Ev.now _)
    simp only [cubitref03_Of.l0]
    rw [if_pos hw0, hsh, if_neg (by omega)]
  intro n
  induction n with
  | zero => intro i h1 h2; exact fin i (by omega)
  | succ n ih =>
    intro i h1 h2
    by_cases hi : i < 2 ^ m
    · have hw : IntKind.u64.wrap ((i : Int) + 1) = ((i + 1 : Nat) : Int) := by
        rw [show (i : Int) + 1 = ((i + 1 : Nat) : Int) by omega]
        exact wrapn (by omega)
      have hlen : (ofL c i).length < 17592186044416 := by
        unfold ofL
        rw [List.length_map]
        have := ofN_length c i
        omega
      have key : Ev (fun k => (cubitref03_Count.f k (i : Int)).bind fun t => (if t = (c : Int) then (if (ofL c i).length < 17592186044416 then (cubitref03_Of.l0 k (m : Int) (c : Int) (ofL c i ++ [(i : Int)]) (IntKind.u64.wrap ((i : Int) + 1))) else none) else (cubitref03_Of.l0 k (m : Int) (c : Int) (ofL c i) (IntKind.u64.wrap ((i : Int) + 1))))) (ofL c (2 ^ m), 0) := by
        refine Ev.bind (refcount_ev (show i < 2 ^ 64 by omega)) ?_
        refine Ev.congr (fun k => ?_) (ih (i + 1) (by omega) (by omega))
        rw [hw]
        by_cases h : pc 64 i = c
        · have e : ofL c (i + 1) = ofL c i ++ [(i : Int)] := by
            unfold ofL
            rw [ofN_succ, if_pos h, List.map_append]
            rfl
          rw [if_pos (by rw [h]), if_pos hlen, e]
        · have e : ofL c (i + 1) = ofL c i := by
            unfold ofL
            rw [ofN_succ, if_neg h, List.append_nil]
          rw [if_neg (by omega), e]
      refine Ev.step (fun k => ?_) key
      simp only [cubitref03_Of.l0]
      rw [if_pos hw0, hsh, if_pos (by omega)]
    · exact fin i (by omega)
theorem of_both (a2 a3 : Int) : ∃ r : List Int × Int, Ev (fun k => bits_Of.f k a2 a3) r ∧ Ev (fun k => cubitref03_Of.f k a2 a3) r ∧ r.1.length ≤ 65536 := by
  have bad : Ev (fun k => bits_Of.j0 k a2 a3 true) (([] : List Int), 2) ∧ Ev (fun k => cubitref03_Of.j0 k a2 a3 true) (([] : List Int), 2) := by
    constructor
    · refine Ev.step (f := fun _ => some (([] : List Int), 2)) (fun k => ?_) (Ev.now _)
      simp only [bits_Of.j0, if_true]
    · refine Ev.step (f := fun _ => some (([] : List Int), 2)) (fun k => ?_) (Ev.now _)
      simp only [cubitref03_Of.j0, if_true]
  unfold bits_Of.f cubitref03_Of.f
  by_cases h1 : a2 < 0
  · simp only [if_pos h1]
    exact ⟨_, bad.1, bad.2, by decide⟩
  · by_cases h2 : a2 > 16
    · simp only [if_neg h1, if_pos h2]
      exact ⟨_, bad.1, bad.2, by decide⟩
    · by_cases h3 : a3 < 0
      · simp only [if_neg h1, if_neg h2, if_pos h3]
        exact ⟨_, bad.1, bad.2, by decide⟩
      · by_cases h4 : a3 > a2
        · simp only [if_neg h1, if_neg h2, if_neg h3, decide_eq_true h4]
          exact ⟨_, bad.1, bad.2, by decide⟩
        · simp only [if_neg h1, if_neg h2, if_neg h3, decide_eq_false h4]
          obtain ⟨m, rfl⟩ : ∃ m : Nat, a2 = (m : Int) := ⟨a2.toNat, by omega⟩
          obtain ⟨c, rfl⟩ : ∃ c : Nat, a3 = (c : Int) := ⟨a3.toNat, by omega⟩
          refine ⟨_, bitsof_ev (by omega), ?_, ?_⟩
          · refine Ev.step (fun k => ?_) (refof_loop c (show m ≤ 16 by omega) (2 ^ m) 0 (Nat.sub_le _ _) (Nat.zero_le _))
            simp only [cubitref03_Of.j0, Bool.false_eq_true, if_false]
            rfl
          · show (ofL c (2 ^ m)).length ≤ 65536
            unfold ofL
            rw [List.length_map]
            exact Nat.le_trans (ofN_length c (2 ^ m)) (pow16 (by omega))
theorem tail_last (L : List Int) (hL : L.length ≤ 65536) : ∀ (n i : Nat), L.length - i ≤ n → i ≤ L.length → Ev (fun k => setsTail.l1 k L L (i : Int)) true := by
  have fin : ∀ i : Nat, i = L.length → Ev (fun k => setsTail.l1 k L L (i : Int)) true := by
    intro i hi
    refine Ev.step (f := fun _ => some true) (fun k => ?_) (Ev.now _)
    simp only [setsTail.l1]
    rw [if_neg (by omega)]
  intro n
  induction n with
  | zero => intro i h1 h2; exact fin i (by omega)
  | succ n ih =>
    intro i h1 h2
    by_cases hi : i < L.length
    · refine Ev.step (fun k => ?_) (ih (i + 1) (by omega) (by omega))
      simp only [setsTail.l1]
      rw [if_pos (by omega), if_pos (by omega), if_pos (by omega), if_pos trivial, wn1 hi (by omega)]
    · exact fin i (by omega)
theorem tail_loop (L : List Int) (hL : L.length ≤ 65536) : ∀ (n i : Nat), L.length - i ≤ n → i ≤ L.length → Ev (fun k => setsTail.l0 k L (List.replicate i 9 ++ L.drop i) L (i : Int)) true := by
  have fin : ∀ i : Nat, i = L.length → Ev (fun k => setsTail.l0 k L (List.replicate i 9 ++ L.drop i) L (i : Int)) true := by
    intro i hi
    refine Ev.step (fun k => ?_) (tail_last L hL L.length 0 (by omega) (by omega))
    simp only [setsTail.l0]
    rw [if_neg (by omega)]
    rfl
  intro n
  induction n with
  | zero => intro i h1 h2; exact fin i (by omega)
  | succ n ih =>
    intro i h1 h2
    by_cases hi : i < L.length
    · refine Ev.step (fun k => ?_) (ih (i + 1) (by omega) (by omega))
      have hd : L.drop i = L[i] :: L.drop (i + 1) := List.drop_eq_getElem_cons hi
      have hrd : rd (List.replicate i 9 ++ L.drop i) (i : Int) = rd L (i : Int) := by
        unfold rd
        rw [show ((i : Int)).toNat = i by simp, List.getD_eq_getElem?_getD, List.getD_eq_getElem?_getD, List.getElem?_append_right (by simp), hd]
        simp [hi]
      have hset : (List.replicate i (9 : Int) ++ L.drop i).set ((i : Int)).toNat 9 = List.replicate (i + 1) 9 ++ L.drop (i + 1) := by
        rw [show ((i : Int)).toNat = i by simp, hd, List.set_append_right _ _ (by simp), List.length_replicate, Nat.sub_self, List.set_cons_zero, List.replicate_succ', List.append_assoc]
        rfl
      simp only [setsTail.l0]
      rw [if_pos (by omega), if_pos (by omega), if_pos (by rw [List.length_append, List.length_replicate, List.length_drop]; omega), if_pos hrd, hset, wn1 hi (by omega)]
    · exact fin i (by omega)
theorem tail_ev (a0 a1 a2 a3 : Int) : Ev (fun k => setsTail.f k a0 a1 a2 a3) true := by
  obtain ⟨⟨L, e⟩, h1, h2, h3⟩ := of_both a2 a3
  unfold setsTail.f
  refine Ev.bind h2 (Ev.bind h1 (Ev.bind h1 ?_))
  simp only [if_true]
  have e1 : ((L.length : Int) != (L.length : Int)) = false := by simp
  refine Ev.step (fun k => ?_) (tail_loop L h3 L.length 0 (by omega) (by omega))
  simp only [e1, setsTail.j0, Bool.false_eq_true, if_false]
  rfl
theorem BitsSets : cubitlaw03_BitsSets.Pure := by
  intro a0 a1 a2 a3 w0 w1 w2 w3
  obtain ⟨m, hm, rfl⟩ := word w0
  obtain ⟨st, hst⟩ : ∃ st : Int, (if 300 < (if a1 < 1 then 1 else a1) then 300 else (if a1 < 1 then 1 else a1)) = st := ⟨_, rfl⟩
  have hst1 : 1 ≤ st ∧ st ≤ 300 := by
    rw [← hst]
    split <;> split at * <;> omega
  obtain ⟨s, rfl⟩ : ∃ s : Nat, st = (s : Int) := ⟨st.toNat, by omega⟩
  have hsub := sub_ev hm (most := s + 1) (by omega)
  obtain ⟨K1, e1⟩ := hsub
  obtain ⟨K2, e2⟩ := tail_ev (m : Int) a1 a2 a3
  obtain ⟨K3, e3⟩ := awake_ev
  have hk1 := e1 (K1 + K2 + K3) (by omega)
  have hk2 := e2 (K1 + K2 + K3) (by omega)
  have hk3 := e3 (K1 + K2 + K3) (by omega)
  refine ⟨K1 + K2 + K3, (s : Int), 2 ^ pc 64 m, sq m, (List.range (min (s + 1) (2 ^ pc 64 m))).map (sq m), seq_of hm, hk2, ?_, hk3, hst, hst1.1, hst1.2, ?_⟩
  · rw [show ((s : Int)).toNat = s by simp]
  · rw [show (s : Int) + 1 = ((s + 1 : Nat) : Int) by omega]
    exact hk1
end Go.Proofs.YtoebcbhadcpcoaaDoor.Pure
