/- Places: what right tells; Pick and Put, the program's and the document's. -/
import Derived.Test.YtoebcbhadcpcoaaDoorBitE
import Derived.Test.YtoebcbhadcpcoaaDoorPAx3
namespace Go.Proofs.YtoebcbhadcpcoaaDoor.B
open Go Go.RowKit Go.Proofs.YtoebcbhadcpcoaaDoor.PA Go.Proofs.YtoebcbhadcpcoaaDoorW.PrintMore Go.Proofs.YtoebcbhadcpcoaaDoorW.PrintWords
set_option linter.unusedVariables false
set_option linter.unusedSimpArgs false
/-- The ones among the lowest n bits, from above. -/
def pcs : Nat → Nat → Nat
  | 0, _ => 0
  | n + 1, x => pcs n x + (if x.testBit n then 1 else 0)
theorem pcs_low : ∀ n x, pcs (n + 1) x = (if x.testBit 0 then 1 else 0) + pcs n (x / 2)
  | 0, x => by simp [pcs]
  | n + 1, x => by
    have h : pcs (n + 1 + 1) x = pcs (n + 1) x + (if x.testBit (n + 1) then 1 else 0) := rfl
    have h2 : pcs (n + 1) (x / 2) = pcs n (x / 2) + (if (x / 2).testBit n then 1 else 0) := rfl
    rw [h, pcs_low n x, h2, Nat.testBit_succ]
    omega
theorem pc_pcs : ∀ n x, pc n x = pcs n x
  | 0, x => rfl
  | n + 1, x => by
    have h : pc (n + 1) x = x % 2 + pc n (x / 2) := rfl
    rw [h, pcs_low, pc_pcs n]
    congr 1
    rw [Nat.testBit_zero]
    have := Nat.mod_lt x (show 2 > 0 by decide)
    by_cases h : x % 2 = 1
    · simp [h]
    · have : x % 2 = 0 := by omega
      simp [this]
theorem pcs_or {x p : Nat} (hp : x.testBit p = false) : ∀ n, pcs n (x ||| 2 ^ p) = pcs n x + (if p < n then 1 else 0)
  | 0 => by simp [pcs]
  | n + 1 => by
    have h : pcs (n + 1) (x ||| 2 ^ p) = pcs n (x ||| 2 ^ p) + (if (x ||| 2 ^ p).testBit n then 1 else 0) := rfl
    have h2 : pcs (n + 1) x = pcs n x + (if x.testBit n then 1 else 0) := rfl
    rw [h, h2, pcs_or hp n, Nat.testBit_or, Nat.testBit_two_pow]
    by_cases e : p = n
    · subst e
      rw [hp]
      simp
    · by_cases h3 : p < n
      · have : p < n + 1 := by omega
        simp [e, h3, this]
        omega
      · have : ¬ p < n + 1 := by omega
        simp [e, h3, this]
theorem pcs_le : ∀ n x, pcs n x ≤ n
  | 0, _ => Nat.le_refl _
  | n + 1, x => by
    have := pcs_le n x
    unfold pcs
    split <;> omega
theorem w1n {i n : Nat} (h : i < n) (hn : n ≤ 9223372036854775806) : wrap64 ((i : Int) + 1) = ((i + 1 : Nat) : Int) := by
  unfold wrap64
  omega
/-- Are these places, none twice, none of those seen? -/
def rightB : Nat → List Int → Bool
  | _, [] => true
  | seen, p :: r => (decide (0 ≤ p) && decide (p ≤ 63) && !seen.testBit p.toNat) && rightB (seen ||| 2 ^ p.toNat) r
theorem rd_app' (pre r : List Int) (t : Int) : rd (pre ++ t :: r) (pre.length : Int) = t := by
  unfold rd
  simp
theorem right_ev (l : List Int) (hl : l.length ≤ 9223372036854775806) : ∀ (r pre : List Int) (seen : Nat), l = pre ++ r → seen < 2 ^ 64 → Ev (fun k => bits_right.l0 k (seen : Int) l (l.length : Int) (pre.length : Int)) (rightB seen r)
  | [], pre, seen, h, hs => by
    have hlen : l.length = pre.length := by rw [h]; simp
    refine Ev.step (f := fun _ => some true) (fun k => ?_) (Ev.now _)
    simp only [bits_right.l0]
    rw [if_neg (by omega)]
  | p :: r, pre, seen, h, hs => by
    have hlen : l.length = pre.length + (r.length + 1) := by rw [h]; simp
    have hrd : rd l (pre.length : Int) = p := by rw [h, rd_app']
    by_cases h0 : p < 0
    · refine Ev.step (f := fun _ => some false) (fun k => ?_) ?_
      · simp only [bits_right.l0]
        rw [if_pos (by omega), if_pos (by omega), if_pos (by omega), hrd, if_pos h0]
      · have : rightB seen (p :: r) = false := by
          unfold rightB
          rw [decide_eq_false (by omega)]
          simp
        rw [this]
        exact Ev.now _
    · by_cases h63 : p > 63
      · refine Ev.step (f := fun _ => some false) (fun k => ?_) ?_
        · simp only [bits_right.l0]
          rw [if_pos (by omega), if_pos (by omega), if_pos (by omega), hrd, if_neg h0, if_pos h63]
        · have : rightB seen (p :: r) = false := by
            unfold rightB
            rw [decide_eq_false (show ¬ p ≤ 63 by omega)]
            simp
          rw [this]
          exact Ev.now _
      · obtain ⟨q, rfl⟩ : ∃ q : Nat, p = (q : Int) := ⟨p.toNat, by omega⟩
        have hq : q < 64 := by omega
        have hp2 : 2 ^ q < 2 ^ 64 := Nat.pow_lt_pow_right (by decide) hq
        cases hb : seen.testBit q with
        | true =>
          refine Ev.step (f := fun _ => some false) (fun k => ?_) ?_
          · simp only [bits_right.l0]
            rw [if_pos (by omega), if_pos (by omega), if_pos (by omega), hrd, if_neg h0, if_neg h63, if_pos (by omega), sh1 hs, hb, bb_true, if_pos rfl]
          · have : rightB seen ((q : Int) :: r) = false := by
              unfold rightB
              simp [hb]
            rw [this]
            exact Ev.now _
        | false =>
          have hor := @or_u seen (2 ^ q) hs hp2
          have ih := right_ev l hl r (pre ++ [(q : Int)]) (seen ||| 2 ^ q) (by rw [h]; simp) (Nat.or_lt_two_pow hs hp2)
          have : rightB seen ((q : Int) :: r) = rightB (seen ||| 2 ^ q) r := by
            conv => lhs; unfold rightB
            simp [hb, hq]
            omega
          rw [this]
          refine Ev.step (f := fun k => bits_right.l0 k ((seen ||| 2 ^ q : Nat) : Int) l (l.length : Int) ((pre ++ [(q : Int)]).length : Int)) (fun k => ?_) ih
          simp only [bits_right.l0]
          rw [if_pos (by omega), if_pos (by omega), if_pos (by omega), hrd, if_neg h0, if_neg h63, if_pos (by omega), sh1 hs, hb, if_neg (by decide), one_shl hq, hor, w1n (n := l.length) (by omega) hl]
          rw [List.length_append, List.length_singleton]
theorem right_f (l : List Int) (hl : l.length ≤ 9223372036854775806) : Ev (fun k => bits_right.f k l) (rightB 0 l) := right_ev l hl l [] 0 rfl (by decide)
/-- What places are. -/
theorem right_true : ∀ (l : List Int) (seen : Nat), rightB seen l = true → ∃ ps : List Nat, l = ps.map (fun (n : Nat) => (n : Int)) ∧ (∀ p ∈ ps, p < 64 ∧ seen.testBit p = false) ∧ ps.Nodup ∧ ps.length + pcs 64 seen ≤ 64
  | [], seen, h => ⟨[], rfl, by simp, List.nodup_nil, by have := pcs_le 64 seen; simpa using this⟩
  | p :: r, seen, h => by
    unfold rightB at h
    simp only [Bool.and_eq_true, decide_eq_true_eq, Bool.not_eq_true'] at h
    obtain ⟨⟨⟨h0, h1⟩, h2⟩, h3⟩ := h
    obtain ⟨ps, e, hps, hn, hlen⟩ := right_true r _ h3
    have hp : p.toNat < 64 := by omega
    refine ⟨p.toNat :: ps, ?_, ?_, ?_, ?_⟩
    · rw [List.map_cons, ← e]
      congr 1
      omega
    · intro q hq
      rcases List.mem_cons.1 hq with rfl | hq
      · exact ⟨hp, h2⟩
      · have := hps q hq
        rw [Nat.testBit_or, Bool.or_eq_false_iff] at this
        exact ⟨this.1, this.2.1⟩
    · refine List.nodup_cons.2 ⟨fun hm => ?_, hn⟩
      have := (hps _ hm).2
      rw [Nat.testBit_or, Nat.testBit_two_pow, Bool.or_eq_false_iff] at this
      simp at this
    · rw [pcs_or h2, if_pos hp] at hlen
      rw [List.length_cons]
      omega
/-- A list that is so is right. -/
theorem right_of : ∀ (ps : List Nat) (seen : Nat), (∀ p ∈ ps, p < 64 ∧ seen.testBit p = false) → ps.Nodup → rightB seen (ps.map (fun (n : Nat) => (n : Int))) = true
  | [], seen, _, _ => rfl
  | p :: r, seen, h, hn => by
    have hp := h p (by simp)
    rw [List.nodup_cons] at hn
    have ih := right_of r (seen ||| 2 ^ p) (fun q hq => by
      have := h q (by simp [hq])
      refine ⟨this.1, ?_⟩
      rw [Nat.testBit_or, Nat.testBit_two_pow, this.2]
      have : p ≠ q := fun e => hn.1 (e ▸ hq)
      simp [this]) hn.2
    rw [List.map_cons]
    unfold rightB
    rw [Int.toNat_natCast, hp.2, ih, decide_eq_true (show (0 : Int) ≤ (p : Int) by omega), decide_eq_true (show (p : Int) ≤ 63 by omega)]
    rfl
/-- The bits of x at these places. -/
def pickN (x : Nat) (ps : List Nat) : Nat := ofB (fun k => x.testBit (ps.getD k 0)) ps.length
theorem or_set {x j : Nat} (h : x.testBit j = false) (b : Bool) : x ||| (if b then 2 ^ j else 0) = setB x j b := by
  refine Nat.eq_of_testBit_eq (fun i => ?_)
  rw [Nat.testBit_or, testBit_setB]
  by_cases e : i = j
  · subst e
    rw [h, if_pos rfl]
    cases b <;> simp
  · have : ¬ j = i := fun h => e h.symm
    rw [if_neg e]
    cases b <;> simp [Nat.testBit_two_pow, this]
theorem rd_map (ps : List Nat) (j : Nat) (h : j < ps.length) : rd (ps.map (fun (n : Nat) => (n : Int))) (j : Int) = ((ps.getD j 0 : Nat) : Int) := by
  unfold rd
  rw [Int.toNat_natCast, List.getD_eq_getElem?_getD, List.getElem?_map, List.getElem?_eq_getElem h, List.getD_eq_getElem?_getD, List.getElem?_eq_getElem h]
  rfl
theorem getD_mem {ps : List Nat} {j : Nat} (h : j < ps.length) : ps.getD j 0 ∈ ps := by
  rw [List.getD_eq_getElem?_getD, List.getElem?_eq_getElem h]
  exact List.getElem_mem h
theorem shl_bb {b : Bool} {j : Nat} (hj : j < 64) : shl .u64 (bb b) (j : Int) = ((if b then 2 ^ j else 0 : Nat) : Int) := by
  cases b
  · rw [bb_false]
    unfold shl
    rw [Int.zero_mul]
    rfl
  · rw [bb_true, one_shl hj]
    rfl
theorem ite_lt {b : Bool} {j : Nat} (hj : j < 64) : (if b then 2 ^ j else 0) < 2 ^ 64 := by
  cases b
  · exact Nat.two_pow_pos 64
  · exact Nat.pow_lt_pow_right (by decide) hj
theorem ofB_succ (f : Nat → Bool) (n : Nat) : ofB f (n + 1) = setB (ofB f n) n (f n) := rfl
section
variable (ps : List Nat) (hps : ∀ p ∈ ps, p < 64) (hlen : ps.length ≤ 64)
include hps hlen
theorem pick_loop {x : Nat} (hx : x < 2 ^ 64) : ∀ (n j : Nat), ps.length - j ≤ n → j ≤ ps.length → Ev (fun k => bits_Pick.l0 k (x : Int) ((ofB (fun k => x.testBit (ps.getD k 0)) j : Nat) : Int) (ps.map (fun (n : Nat) => (n : Int))) (ps.length : Int) (j : Int)) (((pickN x ps : Nat) : Int), 0) := by
  unfold pickN
  intro n
  induction n with
  | zero =>
    intro j h1 h2
    obtain rfl : j = ps.length := by omega
    refine Ev.step (f := fun _ => some (((ofB (fun k => x.testBit (ps.getD k 0)) ps.length : Nat) : Int), 0)) (fun k => ?_) (Ev.now _)
    simp only [bits_Pick.l0]
    rw [if_neg (by omega)]
  | succ n ih =>
    intro j h1 h2
    by_cases hj : j < ps.length
    · have hm := hps _ (getD_mem hj)
      have hlt := ofB_lt (fun k => x.testBit (ps.getD k 0)) j (by omega)
      have hf : (ofB (fun k => x.testBit (ps.getD k 0)) j).testBit j = false := by rw [testBit_ofB]; simp
      refine Ev.step (fun k => ?_) (ih (j + 1) (by omega) (by omega))
      simp only [bits_Pick.l0]
      rw [if_pos (by omega), if_pos (by omega), if_pos (by rw [List.length_map]; omega), rd_map ps j hj, if_pos (by omega), sh1 hx, shl_bb (show j < 64 by omega), or_u hlt (ite_lt (by omega)), or_set hf, w1n (n := 64) (by omega) (by decide), ofB_succ]
    · obtain rfl : j = ps.length := by omega
      refine Ev.step (f := fun _ => some (((ofB (fun k => x.testBit (ps.getD k 0)) ps.length : Nat) : Int), 0)) (fun k => ?_) (Ev.now _)
      simp only [bits_Pick.l0]
      rw [if_neg (by omega)]
theorem refpick_loop {x : Nat} (hx : x < 2 ^ 64) : ∀ (n j : Nat), ps.length - j ≤ n → j ≤ ps.length → Ev (fun k => cubitref03_Pick.l0 k (x : Int) (ps.map (fun (n : Nat) => (n : Int))) ((ofB (fun k => x.testBit (ps.getD k 0)) j : Nat) : Int) (j : Int)) (((pickN x ps : Nat) : Int), 0) := by
  unfold pickN
  intro n
  induction n with
  | zero =>
    intro j h1 h2
    obtain rfl : j = ps.length := by omega
    refine Ev.step (f := fun _ => some (((ofB (fun k => x.testBit (ps.getD k 0)) ps.length : Nat) : Int), 0)) (fun k => ?_) (Ev.now _)
    simp only [cubitref03_Pick.l0]
    rw [if_neg (by rw [List.length_map]; omega)]
  | succ n ih =>
    intro j h1 h2
    by_cases hj : j < ps.length
    · have hm := hps _ (getD_mem hj)
      have hlt := ofB_lt (fun k => x.testBit (ps.getD k 0)) j (by omega)
      refine Ev.step (fun k => ?_) (ih (j + 1) (by omega) (by omega))
      simp only [cubitref03_Pick.l0]
      rw [if_pos (by rw [List.length_map]; omega), if_pos (by omega), rd_map ps j hj, bit_n hx (Nat.lt_trans hm (by decide))]
      rw [Option.bind_some]
      rw [set_n hlt (show j < 64 by omega)]
      rw [Option.bind_some]
      rw [w1n (n := 64) (by omega) (by decide)]
      exact congrArg (fun z : Nat => cubitref03_Pick.l0 k (x : Int) (ps.map (fun (n : Nat) => (n : Int))) (z : Int) ((j + 1 : Nat) : Int)) (ofB_succ _ _).symm
    · obtain rfl : j = ps.length := by omega
      refine Ev.step (f := fun _ => some (((ofB (fun k => x.testBit (ps.getD k 0)) ps.length : Nat) : Int), 0)) (fun k => ?_) (Ev.now _)
      simp only [cubitref03_Pick.l0]
      rw [if_neg (by rw [List.length_map]; omega)]
end
/-- The bits of v put at these places. -/
def putN (v : Nat) : List Nat → Nat → Nat → Nat
  | [], _, x => x
  | p :: r, k, x => putN v r (k + 1) (setB x p (v.testBit k))
theorem putN_lt {v : Nat} : ∀ (ps : List Nat) (k x : Nat), (∀ p ∈ ps, p < 64) → x < 2 ^ 64 → putN v ps k x < 2 ^ 64
  | [], k, x, h, hx => hx
  | p :: r, k, x, h, hx => putN_lt r (k + 1) _ (fun q hq => h q (by simp [hq])) (setB_lt hx (h p (by simp)))
theorem clear_set {x p : Nat} (hx : x < 2 ^ 64) (hp : p < 64) (b : Bool) : Go.bits .or .u64 (Go.bits .andNot .u64 (x : Int) ((2 ^ p : Nat) : Int)) ((if b then 2 ^ p else 0 : Nat) : Int) = ((setB x p b : Nat) : Int) := by
  have hp2 : 2 ^ p < 2 ^ 64 := Nat.pow_lt_pow_right (by decide) hp
  obtain ⟨c, e, hc, ht⟩ := andNot_u hx hp2
  rw [e, or_u hc (ite_lt hp)]
  congr 1
  refine Nat.eq_of_testBit_eq (fun i => ?_)
  rw [Nat.testBit_or, testBit_setB, ht, Nat.testBit_two_pow]
  by_cases h : i = p
  · subst h
    rw [if_pos rfl]
    cases b <;> simp
  · have : ¬ p = i := fun e => h e.symm
    rw [if_neg h]
    cases b <;> simp [Nat.testBit_two_pow, this]
theorem put_loop {v : Nat} (hv : v < 2 ^ 64) (ps : List Nat) (hps : ∀ p ∈ ps, p < 64) (hlen : ps.length ≤ 64) : ∀ (r pre : List Nat) (x : Nat), ps = pre ++ r → x < 2 ^ 64 →
    Ev (fun k => bits_Put.l0 k (x : Int) (v : Int) (ps.map (fun (n : Nat) => (n : Int))) (ps.length : Int) (pre.length : Int)) (((putN v r pre.length x : Nat) : Int), 0)
  | [], pre, x, h, hx => by
    have hl : ps.length = pre.length := by rw [h]; simp
    refine Ev.step (f := fun _ => some ((x : Int), 0)) (fun k => ?_) (Ev.now _)
    simp only [bits_Put.l0]
    rw [if_neg (by omega)]
  | p :: r, pre, x, h, hx => by
    have hl : ps.length = pre.length + (r.length + 1) := by rw [h]; simp
    have hp : p < 64 := hps p (by rw [h]; simp)
    have hg : ps.getD pre.length 0 = p := by rw [h]; simp
    have ih := put_loop hv ps hps hlen r (pre ++ [p]) (setB x p (v.testBit pre.length)) (by rw [h]; simp) (setB_lt hx hp)
    rw [List.length_append, List.length_singleton] at ih
    refine Ev.step (fun k => ?_) ih
    simp only [bits_Put.l0]
    rw [if_pos (by omega), if_pos (by omega), if_pos (by rw [List.length_map]; omega), rd_map ps _ (by omega), hg, if_pos (by omega), one_shl hp, sh1 hv, shl_bb hp, clear_set hx hp, w1n (n := 64) (by omega) (by decide)]
theorem refput_loop {v : Nat} (hv : v < 2 ^ 64) (ps : List Nat) (hps : ∀ p ∈ ps, p < 64) (hlen : ps.length ≤ 64) : ∀ (r pre : List Nat) (x : Nat), ps = pre ++ r → x < 2 ^ 64 →
    Ev (fun k => cubitref03_Put.l1 k (x : Int) (ps.map (fun (n : Nat) => (n : Int))) (v : Int) (pre.length : Int)) (((putN v r pre.length x : Nat) : Int), 0)
  | [], pre, x, h, hx => by
    have hl : ps.length = pre.length := by rw [h]; simp
    refine Ev.step (f := fun _ => some ((x : Int), 0)) (fun k => ?_) (Ev.now _)
    simp only [cubitref03_Put.l1]
    rw [if_neg (by rw [List.length_map]; omega)]
  | p :: r, pre, x, h, hx => by
    have hl : ps.length = pre.length + (r.length + 1) := by rw [h]; simp
    have hp : p < 64 := hps p (by rw [h]; simp)
    have hg : ps.getD pre.length 0 = p := by rw [h]; simp
    have ih := refput_loop hv ps hps hlen r (pre ++ [p]) (setB x p (v.testBit pre.length)) (by rw [h]; simp) (setB_lt hx hp)
    rw [List.length_append, List.length_singleton] at ih
    refine Ev.step (fun k => ?_) ih
    simp only [cubitref03_Put.l1]
    rw [if_pos (by rw [List.length_map]; omega), if_pos (by omega), bit_n hv (by omega)]
    rw [Option.bind_some]
    rw [rd_map ps _ (by omega), hg, set_n hx hp]
    rw [Option.bind_some]
    rw [w1n (n := 64) (by omega) (by decide)]
end Go.Proofs.YtoebcbhadcpcoaaDoor.B
