/- Gates on disjoint qubits commute: the plain law of order. -/
import Derived.Test.YtlobgpgdknjhlaaGreatWhV
namespace Go.Proofs.YtlobgpgdknjhlaaGreat.WH
open Go Go.RowKit Go.Proofs.YtlobgpgdknjhlaaGreat.F
set_option linter.unusedVariables false
set_option linter.unusedSimpArgs false
theorem Rg.eq {r s : Rg} (a : r.a = s.a) (b : r.b = s.b) (c : r.c = s.c) (d : r.d = s.d) : r = s := by
  obtain ⟨_, _, _, _⟩ := r
  obtain ⟨_, _, _, _⟩ := s
  simp only at a b c d
  subst a; subst b; subst c; subst d
  rfl
theorem addR_comm (r s : Rg) : addR r s = addR s r := by
  refine Rg.eq ?_ ?_ ?_ ?_ <;> simp only [addR] <;> omega
theorem addR_assoc (r s t : Rg) : addR (addR r s) t = addR r (addR s t) := by
  refine Rg.eq ?_ ?_ ?_ ?_ <;> simp only [addR] <;> omega
theorem addR_mid (a b c d : Rg) : addR (addR a b) (addR c d) = addR (addR a c) (addR b d) := by
  refine Rg.eq ?_ ?_ ?_ ?_ <;> simp only [addR] <;> omega
/-- An additive map that keeps turns and doubling. -/
structure Lin (f : Rg → Rg) : Prop where
  add : ∀ r s, f (addR r s) = addR (f r) (f s)
  nil : f nilR = nilR
  odd : ∀ r, f (oddR r) = oddR (f r)
  dbl : ∀ r, f (doubleR r) = doubleR (f r)
def itR (f : Rg → Rg) : Nat → Rg → Rg
  | 0, r => r
  | k + 1, r => itR f k (f r)
theorem Lin.id : Lin fun r => r := ⟨fun _ _ => rfl, rfl, fun _ => rfl, fun _ => rfl⟩
theorem Lin.zero : Lin fun _ => nilR := ⟨fun _ _ => rfl, rfl, fun _ => rfl, fun _ => rfl⟩
theorem Lin.comp {f g : Rg → Rg} (hf : Lin f) (hg : Lin g) : Lin fun r => f (g r) :=
  ⟨fun r s => by rw [hg.add, hf.add], by rw [hg.nil, hf.nil], fun r => by rw [hg.odd, hf.odd], fun r => by rw [hg.dbl, hf.dbl]⟩
theorem Lin.oddR : Lin oddR :=
  ⟨fun r s => by refine Rg.eq ?_ ?_ ?_ ?_ <;> simp only [WH.oddR, addR] <;> omega, rfl, fun r => rfl, fun r => by refine Rg.eq ?_ ?_ ?_ ?_ <;> simp only [WH.oddR, doubleR] <;> omega⟩
theorem Lin.doubleR : Lin doubleR :=
  ⟨fun r s => by refine Rg.eq ?_ ?_ ?_ ?_ <;> simp only [WH.doubleR, addR] <;> omega, rfl, fun r => (Lin.oddR.dbl r).symm, fun r => rfl⟩
theorem Lin.it {f : Rg → Rg} (hf : Lin f) : ∀ k, Lin (itR f k)
  | 0 => Lin.id
  | k + 1 => (Lin.it hf k).comp hf
theorem turnR_it (k : Int) (r : Rg) : turnR k r = itR WH.oddR (k % 8).toNat r := by
  have h : k % 8 = 0 ∨ k % 8 = 1 ∨ k % 8 = 2 ∨ k % 8 = 3 ∨ k % 8 = 4 ∨ k % 8 = 5 ∨ k % 8 = 6 ∨ k % 8 = 7 := by omega
  rcases h with h | h | h | h | h | h | h | h <;> simp [turnR, h, itR, evenR, turnG, WH.oddR]
theorem Lin.turn (k : Int) : Lin (turnR k) := by
  have e : turnR k = itR WH.oddR (k % 8).toNat := funext (turnR_it k)
  rw [e]
  exact Lin.oddR.it _
theorem Lin.keeps_it {f : Rg → Rg} (hf : Lin f) : ∀ k r, f (itR WH.oddR k r) = itR WH.oddR k (f r)
  | 0, _ => rfl
  | k + 1, r => by rw [itR, itR, hf.keeps_it k, hf.odd]
theorem Lin.keeps_turn {f : Rg → Rg} (hf : Lin f) (k : Int) (r : Rg) : f (turnR k r) = turnR k (f r) := by
  rw [turnR_it, turnR_it, hf.keeps_it]
theorem Lin.term (j k ha : Nat) : Lin (termR j k ha) := by
  by_cases h : k < ha
  · have e : termR j k ha = fun r => WH.doubleR (turnR j r) := funext fun r => by unfold termR; rw [if_pos h]
    rw [e]
    exact Lin.doubleR.comp (Lin.turn j)
  · have e : termR j k ha = fun r => turnR j r := funext fun r => by unfold termR; rw [if_neg h]
    rw [e]
    exact Lin.turn j
theorem Lin.keeps_term {f : Rg → Rg} (hf : Lin f) (j k ha : Nat) (r : Rg) : f (termR j k ha r) = termR j k ha (f r) := by
  unfold termR
  split
  · rw [hf.dbl, hf.keeps_turn]
  · exact hf.keeps_turn _ _
/-- The entry at row v and column y. -/
def entR (e : En) (v y : Nat) (r : Rg) : Rg := match hitC (e.f y) v with
  | some c => termR c.turn c.under e.ha r
  | none => nilR
theorem Lin.ent (e : En) (v y : Nat) : Lin (entR e v y) := by
  unfold entR
  split
  · exact Lin.term _ _ _
  · exact Lin.zero
theorem Lin.keeps_ent {f : Rg → Rg} (hf : Lin f) (e : En) (v y : Nat) (r : Rg) : f (entR e v y r) = entR e v y (f r) := by
  unfold entR
  split
  · exact hf.keeps_term _ _ _ _
  · exact hf.nil
def sumR (f : Nat → Rg) : Nat → Rg
  | 0 => nilR
  | y + 1 => addR (sumR f y) (f y)
theorem sumR_congr {f g : Nat → Rg} : ∀ n, (∀ y, y < n → f y = g y) → sumR f n = sumR g n
  | 0, _ => rfl
  | n + 1, h => by rw [sumR, sumR, sumR_congr n fun y hy => h y (by omega), h n (by omega)]
theorem sumR_nil : ∀ n, sumR (fun _ => nilR) n = nilR
  | 0 => rfl
  | n + 1 => by rw [sumR, sumR_nil n]; rfl
theorem sumR_add (f g : Nat → Rg) : ∀ n, sumR (fun y => addR (f y) (g y)) n = addR (sumR f n) (sumR g n)
  | 0 => rfl
  | n + 1 => by rw [sumR, sumR, sumR, sumR_add f g n, addR_mid]
theorem sumR_swap (f : Nat → Nat → Rg) (m : Nat) : ∀ n, sumR (fun y => sumR (f y) m) n = sumR (fun z => sumR (fun y => f y z) n) m
  | 0 => (sumR_nil m).symm
  | n + 1 => by
    rw [sumR, sumR_swap f m n]
    have e : (fun z => sumR (fun y => f y z) (n + 1)) = fun z => addR (sumR (fun y => f y z) n) (f n z) := rfl
    rw [e, sumR_add]
theorem Lin.sum {f : Rg → Rg} (hf : Lin f) (g : Nat → Rg) : ∀ n, f (sumR g n) = sumR (fun y => f (g y)) n
  | 0 => hf.nil
  | n + 1 => by rw [sumR, sumR, hf.add, hf.sum g n]
def atR (rs : List Rg) (t : Nat) : Rg := rs[t]?.getD nilR
theorem accR_sum (e : En) (rs : List Rg) (qs : List Nat) (tt : Nat) : ∀ n, accR e rs qs tt n = sumR (fun y => entR e (pickN tt qs) y (atR rs (putN tt qs y qs.length))) n
  | 0 => rfl
  | n + 1 => by
    rw [accR, sumR, accR_sum e rs qs tt n]
    rfl
theorem applyR_at (e : En) (rs : List Rg) (qs : List Nat) {t : Nat} (ht : t < rs.length) : atR (applyR e rs qs) t = sumR (fun y => entR e (pickN t qs) y (atR rs (putN t qs y qs.length))) (2 ^ e.ar) := by
  unfold atR applyR
  rw [List.getElem?_map, List.getElem?_range ht]
  exact accR_sum e rs qs t _
theorem atR_ext {rs ss : List Rg} (hl : rs.length = ss.length) (h : ∀ t, t < rs.length → atR rs t = atR ss t) : rs = ss := by
  refine List.ext_getElem hl fun t h1 h2 => ?_
  have := h t h1
  unfold atR at this
  rw [List.getElem?_eq_getElem h1, List.getElem?_eq_getElem h2] at this
  exact this
/-- Disjoint places. -/
theorem pick_off {x v : Nat} {qs ps : List Nat} (hd : ∀ q ∈ qs, q ∉ ps) : pickN (putN x ps v ps.length) qs = pickN x qs := by
  refine Nat.eq_of_testBit_eq fun k => ?_
  by_cases hk : k < qs.length
  · rw [pickN_bit _ _ k hk, pickN_bit _ _ k hk, putN_off x ps v (hd _ (List.getElem_mem hk)) _ (Nat.le_refl _)]
  · unfold pickN
    rw [B.testBit_ofB, B.testBit_ofB]
    simp [hk]
theorem put_swap {x u v : Nat} {qs ps : List Nat} (hq : qs.Nodup) (hp : ps.Nodup) (hd : ∀ q ∈ qs, q ∉ ps) : putN (putN x ps v ps.length) qs u qs.length = putN (putN x qs u qs.length) ps v ps.length := by
  refine Nat.eq_of_testBit_eq fun i => ?_
  by_cases h1 : i ∈ qs
  · obtain ⟨k, hk, rfl⟩ := List.getElem_of_mem h1
    rw [putN_hit _ _ _ hq _ (Nat.le_refl _) k hk, putN_off _ ps v (hd _ h1) _ (Nat.le_refl _), putN_hit _ _ _ hq _ (Nat.le_refl _) k hk]
  · rw [putN_off _ qs u h1 _ (Nat.le_refl _)]
    by_cases h2 : i ∈ ps
    · obtain ⟨k, hk, rfl⟩ := List.getElem_of_mem h2
      rw [putN_hit _ _ _ hp _ (Nat.le_refl _) k hk, putN_hit _ _ _ hp _ (Nat.le_refl _) k hk]
    · rw [putN_off _ ps v h2 _ (Nat.le_refl _), putN_off _ ps v h2 _ (Nat.le_refl _), putN_off _ qs u h1 _ (Nat.le_refl _)]
theorem applyR_swap {n : Nat} {g h : Gop} (hg : g.Ok n) (hh : h.Ok n) (hd : ∀ q ∈ g.qs, q ∉ h.qs) {rs : List Rg} (hl : rs.length = 2 ^ n) : applyR h.e (applyR g.e rs g.qs) h.qs = applyR g.e (applyR h.e rs h.qs) g.qs := by
  have hd' : ∀ q ∈ h.qs, q ∉ g.qs := fun q h1 h2 => hd q h2 h1
  refine atR_ext (by rw [applyR_len, applyR_len, applyR_len, applyR_len]) fun t ht => ?_
  rw [applyR_len, applyR_len, hl] at ht
  rw [applyR_at _ _ _ (by rw [applyR_len, hl]; exact ht), applyR_at _ _ _ (by rw [applyR_len, hl]; exact ht)]
  have e1 : ∀ y, atR (applyR g.e rs g.qs) (putN t h.qs y h.qs.length) = sumR (fun z => entR g.e (pickN t g.qs) z (atR rs (putN (putN t h.qs y h.qs.length) g.qs z g.qs.length))) (2 ^ g.e.ar) := fun y => by
    rw [applyR_at _ _ _ (by rw [hl]; exact put_lt y ht hh.lt), pick_off hd]
  have e2 : ∀ z, atR (applyR h.e rs h.qs) (putN t g.qs z g.qs.length) = sumR (fun y => entR h.e (pickN t h.qs) y (atR rs (putN (putN t g.qs z g.qs.length) h.qs y h.qs.length))) (2 ^ h.e.ar) := fun z => by
    rw [applyR_at _ _ _ (by rw [hl]; exact put_lt z ht hg.lt), pick_off hd']
  rw [sumR_congr _ fun y _ => by rw [e1, (Lin.ent _ _ _).sum], sumR_swap]
  refine sumR_congr _ fun z _ => ?_
  rw [e2, (Lin.ent _ _ _).sum]
  refine sumR_congr _ fun y _ => ?_
  rw [(Lin.ent _ _ _).keeps_ent, put_swap hg.nd hh.nd hd]
/-- Doubling k times. -/
def dupR (k : Nat) (rs : List Rg) : List Rg := rs.map (itR doubleR k)
theorem Lin.apply {f : Rg → Rg} (hf : Lin f) (e : En) (rs : List Rg) (qs : List Nat) : applyR e (rs.map f) qs = (applyR e rs qs).map f := by
  have hm : ∀ t, atR (rs.map f) t = f (atR rs t) := fun t => by
    unfold atR
    rw [List.getElem?_map]
    cases rs[t]? with
    | none => exact hf.nil.symm
    | some r => rfl
  unfold applyR
  rw [List.length_map, List.map_map]
  refine List.map_congr_left fun t _ => ?_
  simp only [Function.comp]
  rw [accR_sum, accR_sum, hf.sum]
  exact sumR_congr _ fun y _ => by rw [hm, hf.keeps_ent]
theorem itR_succ (f : Rg → Rg) : ∀ k r, itR f (k + 1) r = f (itR f k r)
  | 0, _ => rfl
  | k + 1, r => by
    show itR f (k + 1) (f r) = f (itR f k (f r))
    exact itR_succ f k (f r)
theorem itR_add (f : Rg → Rg) (j : Nat) : ∀ k r, itR f (j + k) r = itR f j (itR f k r)
  | 0, _ => rfl
  | k + 1, r => itR_add f j k (f r)
theorem dup_add (j k : Nat) (rs : List Rg) : dupR (j + k) rs = dupR j (dupR k rs) := by
  unfold dupR
  rw [List.map_map]
  exact List.map_congr_left fun r _ => itR_add _ j k r
theorem dup_comm (j k : Nat) (rs : List Rg) : dupR j (dupR k rs) = dupR k (dupR j rs) := by
  rw [← dup_add, Nat.add_comm, dup_add]
theorem dup_apply (k : Nat) (e : En) (rs : List Rg) (qs : List Nat) : applyR e (dupR k rs) qs = dupR k (applyR e rs qs) := (Lin.doubleR.it k).apply e rs qs
theorem double_inj {r s : Rg} (h : doubleR r = doubleR s) : r = s := by
  have h1 := congrArg Rg.a h
  have h2 := congrArg Rg.b h
  have h3 := congrArg Rg.c h
  have h4 := congrArg Rg.d h
  simp only [doubleR] at h1 h2 h3 h4
  refine Rg.eq ?_ ?_ ?_ ?_ <;> omega
theorem it_inj : ∀ k {r s : Rg}, itR doubleR k r = itR doubleR k s → r = s
  | 0, _, _, h => h
  | k + 1, _, _, h => double_inj (it_inj k h)
theorem dup_inj {k : Nat} {rs ss : List Rg} (h : dupR k rs = dupR k ss) : rs = ss :=
  List.map_inj_right (fun r s h => it_inj k h) |>.1 h
/-- The same amplitudes. -/
def Sim (s t : Nat × List Rg) : Prop := dupR t.1 s.2 = dupR s.1 t.2
theorem Sim.refl (s : Nat × List Rg) : Sim s s := rfl
theorem Sim.symm {s t : Nat × List Rg} (h : Sim s t) : Sim t s := Eq.symm h
theorem Sim.trans {s t u : Nat × List Rg} (h : Sim s t) (h' : Sim t u) : Sim s u := by
  unfold Sim at *
  refine dup_inj (k := t.1) ?_
  rw [dup_comm, h, dup_comm, h', dup_comm]
theorem dup_zero (rs : List Rg) : dupR 0 rs = rs := by
  unfold dupR
  exact List.map_id'' (fun r => rfl) rs
theorem double_halve {r : Rg} (h : evn r = true) : doubleR (halveR r) = r := by
  unfold evn at h
  simp only [Bool.and_eq_true, beq_iff_eq] at h
  refine Rg.eq ?_ ?_ ?_ ?_ <;> simp only [doubleR, halveR] <;> omega
theorem sim_formK : ∀ (k : Nat) (rs : List Rg), Sim (k, rs) (formK k rs)
  | 0, rs => Sim.refl _
  | k + 1, rs => by
    rw [formK]
    split
    · rename_i h
      refine Sim.trans ?_ (sim_formK k _)
      show dupR k rs = dupR (k + 1) (rs.map halveR)
      rw [dup_add]
      congr 1
      unfold dupR
      rw [List.map_map]
      refine (List.map_id'' (fun r => rfl) rs).symm.trans (List.map_congr_left fun r hr => ?_)
      exact (double_halve (h r hr)).symm
    · exact Sim.refl _
theorem sim_formS (k : Nat) (rs : List Rg) : Sim (k, rs) (formS k rs) := by
  unfold formS
  split
  · rename_i h
    refine Sim.trans ?_ (sim_formK 0 rs)
    show dupR 0 rs = dupR k rs
    unfold dupR
    refine List.map_congr_left fun r hr => ?_
    rw [h r hr, (Lin.doubleR.it k).nil]
    rfl
  · exact sim_formK k rs
theorem Sim.step {s t : Nat × List Rg} (h : Sim s t) (g : Gop) : Sim (s.1 + g.e.ha, applyR g.e s.2 g.qs) (t.1 + g.e.ha, applyR g.e t.2 g.qs) := by
  unfold Sim at *
  simp only
  rw [Nat.add_comm t.1, Nat.add_comm s.1, dup_add, dup_add, ← dup_apply t.1, ← dup_apply s.1, h]
/-- In one form. -/
def OneF (s : Nat × List Rg) : Prop := s.1 = 0 ∨ ∃ r ∈ s.2, evn r = false
theorem evn_double (r : Rg) : evn (doubleR r) = true := by
  unfold evn doubleR
  simp only [Bool.and_eq_true, beq_iff_eq]
  omega
theorem one_eq {s t : Nat × List Rg} (h : Sim s t) (ht : OneF t) (hle : s.1 ≤ t.1) : s = t := by
  obtain ⟨k, rs⟩ := s
  obtain ⟨j, ss⟩ := t
  obtain ⟨d, rfl⟩ := Nat.exists_eq_add_of_le hle
  unfold Sim at h
  simp only at h
  rw [dup_add] at h
  have h1 := dup_inj h
  cases d with
  | zero => rw [dup_zero] at h1; subst h1; rfl
  | succ d =>
    exfalso
    rcases ht with h2 | ⟨r, hr, he⟩
    · simp at h2
    · simp only at hr
      rw [← h1] at hr
      obtain ⟨r0, -, rfl⟩ := List.mem_map.1 hr
      rw [itR_succ, evn_double] at he
      cases he
theorem Sim.eq {s t : Nat × List Rg} (h : Sim s t) (hs : OneF s) (ht : OneF t) : s = t := by
  rcases Nat.le_total s.1 t.1 with h1 | h1
  · exact one_eq h ht h1
  · exact (one_eq h.symm hs h1).symm
/-- The gates alone, in no form. -/
def rawR (rs : List Rg) (gs : List Gop) : List Rg := gs.foldl (fun rs g => applyR g.e rs g.qs) rs
theorem run_sim : ∀ (gs : List Gop) (s t : Nat × List Rg), Sim s t → Sim (runR s gs) (t.1 + sumH gs, rawR t.2 gs)
  | [], s, t, h => h
  | g :: gs, s, t, h => by
    have h1 := run_sim gs (stepR s g) (t.1 + g.e.ha, applyR g.e t.2 g.qs) ((sim_formS _ _).symm.trans (h.step g))
    have e : t.1 + sumH (g :: gs) = (t.1 + g.e.ha) + sumH gs := by simp [sumH]; omega
    show Sim (runR (stepR s g) gs) (t.1 + sumH (g :: gs), rawR (applyR g.e t.2 g.qs) gs)
    rw [e]
    exact h1
theorem run_one : ∀ (gs : List Gop) (s : Nat × List Rg), OneF s → OneF (runR s gs)
  | [], _, h => h
  | g :: gs, s, h => run_one gs (stepR s g) (formK_one _ _)
theorem run_eq {s : Nat × List Rg} (hs : OneF s) {gs ds : List Gop} (hh : sumH gs = sumH ds) (hr : rawR s.2 gs = rawR s.2 ds) : runR s gs = runR s ds := by
  refine Sim.eq ?_ (run_one _ _ hs) (run_one _ _ hs)
  have h1 := run_sim gs s s (Sim.refl s)
  have h2 := run_sim ds s s (Sim.refl s)
  rw [hh, hr] at h1
  exact h1.trans h2.symm
/-- Sorting by insertion. -/
def insN (a : Nat) : List Nat → List Nat
  | [] => [a]
  | b :: l => if b < a then b :: insN a l else a :: b :: l
def sortN : List Nat → List Nat
  | [] => []
  | a :: l => insN a (sortN l)
theorem ins_perm (a : Nat) : ∀ l, (insN a l).Perm (a :: l)
  | [] => .refl _
  | b :: l => by
    rw [insN]
    split
    · exact ((ins_perm a l).cons b).trans (.swap _ _ _)
    · exact .refl _
theorem sort_perm : ∀ l, (sortN l).Perm l
  | [] => .refl _
  | a :: l => (ins_perm a _).trans ((sort_perm l).cons a)
theorem ins_sorted (a : Nat) : ∀ l : List Nat, l.Pairwise (· ≤ ·) → (insN a l).Pairwise (· ≤ ·)
  | [], _ => by simp [insN]
  | b :: l, h => by
    obtain ⟨h1, h2⟩ := List.pairwise_cons.1 h
    rw [insN]
    split
    · refine List.pairwise_cons.2 ⟨fun c hc => ?_, ins_sorted a l h2⟩
      rcases List.mem_cons.1 ((ins_perm a l).mem_iff.1 hc) with rfl | hc
      · omega
      · exact h1 c hc
    · refine List.pairwise_cons.2 ⟨fun c hc => ?_, h⟩
      rcases List.mem_cons.1 hc with rfl | hc
      · omega
      · have := h1 c hc; omega
theorem sort_sorted : ∀ l, (sortN l).Pairwise (· ≤ ·)
  | [] => List.Pairwise.nil
  | a :: l => ins_sorted a _ (sort_sorted l)
theorem sort_range {l : List Nat} {n : Nat} (h : l.Perm (List.range n)) : sortN l = List.range n :=
  ((sort_perm l).trans h).eq_of_pairwise (fun a b _ _ h1 h2 => Nat.le_antisymm h1 h2) (sort_sorted l) (List.pairwise_lt_range.imp Nat.le_of_lt)
theorem raw_len : ∀ (gs : List Gop) (rs : List Rg), (rawR rs gs).length = rs.length
  | [], _ => rfl
  | g :: gs, rs => (raw_len gs _).trans (applyR_len _ _ _)
theorem ins_raw {n : Nat} (F : Nat → Gop) {a : Nat} (ha : (F a).Ok n) : ∀ (l : List Nat) (rs : List Rg), rs.length = 2 ^ n → (∀ b ∈ l, (F b).Ok n) → (∀ b ∈ l, b < a → ∀ q ∈ (F b).qs, q ∉ (F a).qs) → rawR rs ((a :: l).map F) = rawR rs ((insN a l).map F)
  | [], rs, _, _, _ => rfl
  | b :: l, rs, hl, hok, hd => by
    rw [insN]
    split
    · rename_i hb
      have e : rawR rs ((a :: b :: l).map F) = rawR (applyR (F b).e rs (F b).qs) ((a :: l).map F) := by
        show rawR (applyR (F b).e (applyR (F a).e rs (F a).qs) (F b).qs) (l.map F) = rawR (applyR (F a).e (applyR (F b).e rs (F b).qs) (F a).qs) (l.map F)
        rw [applyR_swap (hok b (List.mem_cons_self ..)) ha (hd b (List.mem_cons_self ..) hb) hl]
      rw [e]
      exact ins_raw F ha l _ (by rw [applyR_len]; exact hl) (fun c hc => hok c (List.mem_cons_of_mem _ hc)) (fun c hc => hd c (List.mem_cons_of_mem _ hc))
    · rfl
theorem sort_raw {n : Nat} (F : Nat → Gop) : ∀ (l : List Nat) (rs : List Rg), rs.length = 2 ^ n → (∀ b ∈ l, (F b).Ok n) → l.Pairwise (fun a b => b < a → ∀ q ∈ (F b).qs, q ∉ (F a).qs) → rawR rs (l.map F) = rawR rs ((sortN l).map F)
  | [], rs, _, _, _ => rfl
  | a :: l, rs, hl, hok, hd => by
    obtain ⟨h1, h2⟩ := List.pairwise_cons.1 hd
    have ih := sort_raw F l (applyR (F a).e rs (F a).qs) (by rw [applyR_len]; exact hl) (fun c hc => hok c (List.mem_cons_of_mem _ hc)) h2
    have e : rawR rs ((a :: l).map F) = rawR rs ((a :: sortN l).map F) := ih
    rw [e, sortN]
    exact ins_raw F (hok a (List.mem_cons_self ..)) _ rs hl (fun c hc => hok c (List.mem_cons_of_mem _ ((sort_perm l).mem_iff.1 hc))) (fun c hc => h1 c ((sort_perm l).mem_iff.1 hc))
/-- Must operations j and k keep their order? -/
def bdG (gs : List Gop) (j k : Nat) : Bool := match gs[j]?, gs[k]? with
  | some g, some h => decide (setOf g.qs &&& setOf h.qs ≠ 0)
  | _, _ => false
theorem bdG_of {gs : List Gop} {j k : Nat} (hj : j < gs.length) (hk : k < gs.length) : bdG gs j k = decide (setOf gs[j].qs &&& setOf gs[k].qs ≠ 0) := by
  unfold bdG
  rw [List.getElem?_eq_getElem hj, List.getElem?_eq_getElem hk]
theorem disj_of {p q : List Nat} (h : setOf p &&& setOf q = 0) : ∀ x ∈ p, x ∉ q := by
  intro x hp hq
  have h1 := congrArg (fun y : Nat => y.testBit x) h
  simp only [Nat.testBit_and, setOf_testBit, Nat.zero_testBit] at h1
  simp [hp, hq] at h1
def keyG (g : Gop) : En × List Nat := (g.e, g.qs)
theorem raw_key : ∀ (gs ds : List Gop) (rs : List Rg), gs.map keyG = ds.map keyG → rawR rs gs = rawR rs ds ∧ sumH gs = sumH ds
  | [], [], rs, _ => ⟨rfl, rfl⟩
  | [], d :: ds, rs, h => by simp at h
  | g :: gs, [], rs, h => by simp at h
  | g :: gs, d :: ds, rs, h => by
    rw [List.map_cons, List.map_cons] at h
    injection h with h1 h2
    simp only [keyG, Prod.mk.injEq] at h1
    obtain ⟨e1, e2⟩ := h1
    obtain ⟨i1, i2⟩ := raw_key gs ds (applyR g.e rs g.qs) h2
    refine ⟨?_, ?_⟩
    · show rawR (applyR g.e rs g.qs) gs = rawR (applyR d.e rs d.qs) ds
      rw [i1, e1, e2]
    · have : sumH (g :: gs) = g.e.ha + sumH gs := by simp [sumH]
      have h3 : sumH (d :: ds) = d.e.ha + sumH ds := by simp [sumH]
      rw [this, h3, i2, e1]
def opG (gs : List Gop) (i : Nat) : Gop := gs[i]?.getD ⟨e_i, none, 0, []⟩
theorem opG_at {gs : List Gop} {i : Nat} (h : i < gs.length) : opG gs i = gs[i] := by
  unfold opG
  rw [List.getElem?_eq_getElem h]
  rfl
theorem opG_range (gs : List Gop) : (List.range gs.length).map (opG gs) = gs := by
  refine List.ext_getElem (by simp) fun i h1 h2 => ?_
  rw [List.getElem_map, List.getElem_range, opG_at h2]
/-- The circuit in another order, the bound pairs kept: the same state. -/
theorem order_run {n : Nat} {s : Nat × List Rg} (hl : s.2.length = 2 ^ n) (ho : OneF s) {gs ds : List Gop} {order : List Nat} (hok : ∀ g ∈ gs, g.Ok n) (hp : order.Perm (List.range gs.length)) (hb : order.Pairwise fun a b => b < a → bdG gs b a = false)
    (hk : ds.map keyG = (order.map (opG gs)).map keyG) : runR s ds = runR s gs ∧ sumH ds = sumH gs := by
  obtain ⟨h1, h2⟩ := raw_key ds (order.map (opG gs)) s.2 hk
  have hmem : ∀ a ∈ order, a < gs.length := fun a ha => List.mem_range.1 (hp.mem_iff.1 ha)
  have hF : ∀ a ∈ order, (opG gs a).Ok n := fun a ha => by
    rw [opG_at (hmem a ha)]
    exact hok _ (List.getElem_mem _)
  have h3 := sort_raw (opG gs) order s.2 hl hF ((hb.imp_of_mem (fun {a b} ha hb' h hlt => by
    have h4 := h hlt
    rw [bdG_of (hmem b hb') (hmem a ha)] at h4
    rw [opG_at (hmem b hb'), opG_at (hmem a ha)]
    exact disj_of (by simpa using h4))))
  rw [sort_range hp, opG_range] at h3
  have h5 : sumH (order.map (opG gs)) = sumH gs := by
    have h6 : (order.map (opG gs)).Perm ((List.range gs.length).map (opG gs)) := hp.map _
    rw [opG_range] at h6
    exact (h6.map (·.e.ha)).sum_nat
  refine ⟨run_eq ho (h2.trans h5) (h1.trans h3), h2.trans h5⟩
/-- The layers, one after the other, each from its end on. -/
theorem layers_order {gs : List Gop} {L : List (List Nat)} {st : List Nat} (hlt : ∀ k, k < gs.length → st[k]?.getD 0 < L.length) (rows : ∀ s (h : s < L.length), L[s] = (List.range gs.length).filter (fun k => decide (st[k]?.getD 0 = s)))
    (ord : ∀ j k, j < k → k < gs.length → bdG gs j k = true → st[j]?.getD 0 < st[k]?.getD 0) : (L.flatMap List.reverse).Perm (List.range gs.length) ∧ (L.flatMap List.reverse).Pairwise fun a b => b < a → bdG gs b a = false := by
  have mem : ∀ s (h : s < L.length) k, k ∈ L[s].reverse ↔ k < gs.length ∧ st[k]?.getD 0 = s := fun s h k => by
    rw [List.mem_reverse, rows s h, List.mem_filter, List.mem_range]
    simp
  have hnd : ∀ l ∈ L, l.reverse.Nodup := fun l hl => by
    obtain ⟨s, h, rfl⟩ := List.getElem_of_mem hl
    rw [(List.reverse_perm _).nodup_iff, rows s h]
    exact List.nodup_range.filter _
  have hpw : ∀ (i j : Nat) (hi : i < L.length) (hj : j < L.length), i < j → ∀ a ∈ L[i].reverse, ∀ b ∈ L[j].reverse, a ≠ b ∧ (b < a → bdG gs b a = false) := fun i j hi hj hij a ha b hb => by
    obtain ⟨a1, a2⟩ := (mem i hi a).1 ha
    obtain ⟨b1, b2⟩ := (mem j hj b).1 hb
    refine ⟨fun e => by subst e; omega, fun hlt => ?_⟩
    cases hc : bdG gs b a with
    | false => rfl
    | true =>
      have := ord b a hlt a1 hc
      omega
  refine ⟨?_, ?_⟩
  · refine (List.perm_ext_iff_of_nodup ?_ List.nodup_range).2 fun k => ?_
    · rw [List.Nodup, List.pairwise_flatMap]
      refine ⟨hnd, List.pairwise_iff_getElem.2 fun i j hi hj hij a ha b hb => (hpw i j hi hj hij a ha b hb).1⟩
    · rw [List.mem_flatMap, List.mem_range]
      constructor
      · rintro ⟨l, hl, hk⟩
        obtain ⟨s, h, rfl⟩ := List.getElem_of_mem hl
        exact ((mem s h k).1 hk).1
      · intro hk
        exact ⟨L[st[k]?.getD 0]'(hlt k hk), List.getElem_mem _, (mem _ (hlt k hk) k).2 ⟨hk, rfl⟩⟩
  · rw [List.pairwise_flatMap]
    refine ⟨fun l hl => ?_, List.pairwise_iff_getElem.2 fun i j hi hj hij a ha b hb => (hpw i j hi hj hij a ha b hb).2⟩
    obtain ⟨s, h, rfl⟩ := List.getElem_of_mem hl
    refine (hnd _ hl).imp_of_mem fun {a b} ha hb _ hlt' => ?_
    obtain ⟨a1, a2⟩ := (mem s h a).1 ha
    obtain ⟨b1, b2⟩ := (mem s h b).1 hb
    cases hc : bdG gs b a with
    | false => rfl
    | true =>
      have := ord b a hlt' a1 hc
      omega
end Go.Proofs.YtlobgpgdknjhlaaGreat.WH
