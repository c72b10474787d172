/- A gate and then its inverse lead a basis state to itself: the plain law. -/
import Derived.Test.YtlobgpgdknjhlaaGreatWhAK
namespace Go.Proofs.YtlobgpgdknjhlaaGreat.WH
open Go Go.RowKit Go.Proofs.YtlobgpgdknjhlaaGreat.F
set_option linter.unusedVariables false
set_option linter.unusedSimpArgs false
/-- A vector over a gate's own qubits, laid into a state: around the basis state x. -/
def embR (n x : Nat) (qs : List Nat) (L : List Rg) : List Rg := (List.range (2 ^ n)).map fun t => if putN t qs (pickN x qs) qs.length = x then L[pickN t qs]?.getD nilR else nilR
/-- The gate on its own qubits. -/
def accL (e : En) (L : List Rg) (v : Nat) : Nat → Rg
  | 0 => nilR
  | y + 1 => addR (accL e L v y) (match hitC (e.f y) v with
    | some c => termR c.turn c.under e.ha (L[y]?.getD nilR)
    | none => nilR)
def applyL (e : En) (L : List Rg) : List Rg := (List.range (2 ^ e.ar)).map fun v => accL e L v (2 ^ e.ar)
def basisL (N y : Nat) : List Rg := (List.replicate N nilR).set y oneR
theorem embR_len (n x : Nat) (qs : List Nat) (L : List Rg) : (embR n x qs L).length = 2 ^ n := by simp [embR]
theorem embR_at {n x t : Nat} (qs : List Nat) (L : List Rg) (ht : t < 2 ^ n) : (embR n x qs L)[t]? = some (if putN t qs (pickN x qs) qs.length = x then L[pickN t qs]?.getD nilR else nilR) := by
  unfold embR
  rw [List.getElem?_map, List.getElem?_range ht]
  rfl
theorem addR_nil2 : addR nilR nilR = nilR := rfl
theorem emb_acc {e : En} {n x t : Nat} {qs : List Nat} (L : List Rg) (hd : qs.Nodup) (hq : ∀ q ∈ qs, q < n) (ht : t < 2 ^ n) : ∀ y, y ≤ 2 ^ qs.length → accR e (embR n x qs L) qs t y = if putN t qs (pickN x qs) qs.length = x then accL e L (pickN t qs) y else nilR
  | 0, _ => by split <;> rfl
  | y + 1, hy => by
    have hp : putN t qs y qs.length < 2 ^ n := put_lt y ht hq
    rw [accR, emb_acc L hd hq ht y (by omega), contr, embR_at qs L hp, put_put t _ _ hd, pick_put t hd (by omega)]
    by_cases h : putN t qs (pickN x qs) qs.length = x
    · rw [if_pos h, if_pos h, if_pos h, accL]
      rfl
    · rw [if_neg h, if_neg h, if_neg h]
      cases hitC (e.f y) (pickN t qs) with
      | none => rfl
      | some c =>
        show addR nilR (termR c.turn c.under e.ha nilR) = nilR
        rw [termR_nil]
        rfl
theorem emb_apply {e : En} {n x : Nat} {qs : List Nat} (L : List Rg) (hl : qs.length = e.ar) (hd : qs.Nodup) (hq : ∀ q ∈ qs, q < n) : applyR e (embR n x qs L) qs = embR n x qs (applyL e L) := by
  refine List.ext_getElem? fun t => ?_
  by_cases ht : t < 2 ^ n
  · rw [embR_at qs _ ht, applyR, List.getElem?_map, embR_len, List.getElem?_range ht]
    simp only [Option.map_some]
    rw [emb_acc L hd hq ht _ (by rw [hl]; exact Nat.le_refl _)]
    have hv : pickN t qs < 2 ^ e.ar := by rw [← hl]; exact pickN_lt _ _
    unfold applyL
    rw [List.getElem?_map, List.getElem?_range hv]
    rfl
  · rw [List.getElem?_eq_none (by rw [applyR_len, embR_len]; omega), List.getElem?_eq_none (by rw [embR_len]; omega)]
theorem emb_mem {n x : Nat} {qs : List Nat} {L : List Rg} (hL : L.length = 2 ^ qs.length) (hd : qs.Nodup) (hq : ∀ q ∈ qs, q < n) (hx : x < 2 ^ n) {p : Rg → Prop} (h0 : p nilR) : (∀ r ∈ embR n x qs L, p r) ↔ ∀ r ∈ L, p r := by
  constructor
  · intro h r hr
    obtain ⟨v, hv, rfl⟩ := List.mem_iff_getElem.1 hr
    rw [hL] at hv
    have ht := put_lt (qs := qs) v hx hq
    have h1 := embR_at (x := x) qs L ht
    have h2 : L[v]? = some (L[v]'(by rw [hL]; exact hv)) := List.getElem?_eq_getElem _
    rw [put_put x _ _ hd, put_pick x hd, if_pos rfl, pick_put x hd hv, h2] at h1
    exact h _ (List.mem_of_getElem? h1)
  · intro h r hr
    obtain ⟨t, ht, rfl⟩ := List.mem_map.1 hr
    split
    · cases hg : L[pickN t qs]? with
      | none => exact h0
      | some s => exact h s (List.mem_of_getElem? hg)
    · exact h0
theorem halveR_nil : halveR nilR = nilR := by decide
theorem emb_halve (n x : Nat) (qs : List Nat) (L : List Rg) : (embR n x qs L).map halveR = embR n x qs (L.map halveR) := by
  unfold embR
  rw [List.map_map]
  refine List.map_congr_left fun t _ => ?_
  simp only [Function.comp]
  split
  · rw [List.getElem?_map]
    cases L[pickN t qs]? with
    | none => exact halveR_nil
    | some s => rfl
  · exact halveR_nil
theorem emb_formK {n x : Nat} {qs : List Nat} (hd : qs.Nodup) (hq : ∀ q ∈ qs, q < n) (hx : x < 2 ^ n) : ∀ (k : Nat) (L : List Rg), L.length = 2 ^ qs.length → formK k (embR n x qs L) = ((formK k L).1, embR n x qs (formK k L).2)
  | 0, L, _ => rfl
  | k + 1, L, hL => by
    have h := emb_mem (p := fun r => evn r = true) hL hd hq hx (by decide)
    rw [formK, formK]
    by_cases hh : ∀ r ∈ L, evn r = true
    · rw [if_pos (h.2 hh), if_pos hh, emb_halve, emb_formK hd hq hx k _ (by rw [List.length_map]; exact hL)]
    · rw [if_neg (fun g => hh (h.1 g)), if_neg hh]
theorem emb_formS {n x : Nat} {qs : List Nat} (hd : qs.Nodup) (hq : ∀ q ∈ qs, q < n) (hx : x < 2 ^ n) (k : Nat) (L : List Rg) (hL : L.length = 2 ^ qs.length) : formS k (embR n x qs L) = ((formS k L).1, embR n x qs (formS k L).2) := by
  have h := emb_mem (p := fun r => r = nilR) hL hd hq hx rfl
  unfold formS
  rw [emb_formK hd hq hx _ L hL]
  by_cases hh : ∀ r ∈ L, r = nilR
  · rw [if_pos (h.2 hh), if_pos hh]
  · rw [if_neg (fun g => hh (h.1 g)), if_neg hh]
theorem emb_basis {n x : Nat} {qs : List Nat} (hd : qs.Nodup) (hx : x < 2 ^ n) : basisR n x = embR n x qs (basisL (2 ^ qs.length) (pickN x qs)) := by
  refine List.ext_getElem? fun t => ?_
  by_cases ht : t < 2 ^ n
  · rw [embR_at qs _ ht]
    unfold basisR basisL
    have hv := pickN_lt t qs
    have hvx := pickN_lt x qs
    rw [List.getElem?_set, List.getElem?_set]
    by_cases h : x = t
    · subst h
      rw [if_pos rfl, put_pick x hd, if_pos rfl, if_pos rfl, List.length_replicate, if_pos ht, List.length_replicate, if_pos hv]
      rfl
    · rw [if_neg h, List.getElem?_replicate, if_pos ht]
      by_cases hp : putN t qs (pickN x qs) qs.length = x
      · rw [if_pos hp]
        have hne : pickN x qs ≠ pickN t qs := fun e => h (by rw [← hp, e, put_pick t hd])
        rw [if_neg hne, List.getElem?_replicate, if_pos hv]
        rfl
      · rw [if_neg hp]
  · rw [List.getElem?_eq_none (by rw [basis_len]; omega), List.getElem?_eq_none (by rw [embR_len]; omega)]
def stepL (s : Nat × List Rg) (e : En) : Nat × List Rg := formS (s.1 + e.ha) (applyL e s.2)
theorem applyL_len (e : En) (L : List Rg) : (applyL e L).length = 2 ^ e.ar := by simp [applyL]
theorem emb_step {n x k : Nat} {L : List Rg} {g : Gop} (hg : g.Ok n) (hx : x < 2 ^ n) : stepR (k, embR n x g.qs L) g = ((stepL (k, L) g.e).1, embR n x g.qs (stepL (k, L) g.e).2) := by
  unfold stepR stepL
  rw [emb_apply L hg.len hg.nd hg.lt, emb_formS hg.nd hg.lt hx _ _ (by rw [applyL_len, hg.len])]
set_option maxRecDepth 100000 in
/-- On its own qubits each gate and then its inverse give back. -/
theorem gates_back : ∀ e ∈ gates, ∀ e' ∈ gates, e'.name = e.back → e'.ar = e.ar ∧ ∀ y < 2 ^ e.ar, stepL (stepL (0, basisL (2 ^ e.ar) y) e) e' = (0, basisL (2 ^ e.ar) y) := by decide +kernel
theorem back_mem : ∀ e ∈ gates, ∃ e' ∈ gates, e'.name = e.back ∧ e'.ar = e.ar := by decide +kernel
/-- THE PLAIN LAW. -/
theorem gate_back {n x : Nat} (hx : x < 2 ^ n) {g g' : Gop} (hg : g.Ok n) (hg' : g'.Ok n) (hq : g'.qs = g.qs) (hn : g'.e.name = g.e.back) : runR (0, basisR n x) [g, g'] = (0, basisR n x) := by
  show stepR (stepR (0, basisR n x) g) g' = _
  rw [emb_basis hg.nd hx, emb_step hg hx]
  have h2 : embR n x g.qs = embR n x g'.qs := by rw [hq]
  rw [h2, emb_step hg' hx]
  have h3 := (gates_back g.e hg.mem g'.e hg'.mem hn).2 (pickN x g.qs) (by rw [← hg.len]; exact pickN_lt _ _)
  rw [hg.len] at *
  show ((stepL (stepL (0, basisL (2 ^ g.e.ar) (pickN x g.qs)) g.e) g'.e).1, embR n x g'.qs (stepL (stepL (0, basisL (2 ^ g.e.ar) (pickN x g.qs)) g.e) g'.e).2) = _
  rw [h3]
end Go.Proofs.YtlobgpgdknjhlaaGreat.WH
