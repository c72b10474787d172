/- The document's elimination: what holds between its steps. -/
import Derived.Test.YtfnmembjgclhoaaCodI
namespace Go.Proofs.Ytfnmembjgclhoaa.CD
open Go Go.RowKit
set_option linter.unusedVariables false
set_option linter.unusedSimpArgs false

def pbit (p : Pau) (b : Nat) : Bool := bitOf (xz p) b
def padd (p r : Pau) : Pau := ⟨p.n, p.x ^^^ r.x, p.z ^^^ r.z, p.ph⟩
def swapped (L : List Pau) (i j : Nat) (hi : i < L.length) (hj : j < L.length) : List Pau := (L.set i L[j]).set j L[i]
theorem swapped_len {L : List Pau} {i j : Nat} (hi : i < L.length) (hj : j < L.length) : (swapped L i j hi hj).length = L.length := by simp [swapped]
/-- Row d added to those behind it that have the bit, as far as k. -/
def swept (L : List Pau) (r : Pau) (d k bit : Nat) : List Pau := L.mapIdx fun m y => if d < m ∧ m < k ∧ pbit y bit = true then padd y r else y
theorem swept_len (L : List Pau) (r : Pau) (d k bit : Nat) : (swept L r d k bit).length = L.length := by simp [swept]
theorem swept_at (L : List Pau) (r : Pau) (d k bit m : Nat) (h : m < (swept L r d k bit).length) : (swept L r d k bit)[m] = if d < m ∧ m < k ∧ pbit (L[m]'(by rw [swept_len] at h; exact h)) bit = true then padd (L[m]'(by rw [swept_len] at h; exact h)) r else L[m]'(by rw [swept_len] at h; exact h) := by
  simp [swept]
theorem swept_start (L : List Pau) (r : Pau) (d bit : Nat) : swept L r d (d + 1) bit = L := by
  apply List.ext_getElem
  · rw [swept_len]
  · intro m h1 h2
    rw [swept_at, if_neg (by omega)]
theorem swept_get {L : List Pau} {r : Pau} {d k bit : Nat} (h : k < L.length) : (swept L r d k bit)[k]'(by rw [swept_len]; exact h) = L[k] := by
  rw [swept_at, if_neg (by omega)]
theorem swept_low {L : List Pau} {r : Pau} {d k bit m : Nat} (hm : m ≤ d) (h : m < L.length) : (swept L r d k bit)[m]'(by rw [swept_len]; exact h) = L[m] := by
  rw [swept_at, if_neg (by omega)]
theorem swept_step {L : List Pau} {r : Pau} {d k bit : Nat} (hd : d < k) (h : k < L.length) (hb : pbit L[k] bit = true) : (swept L r d k bit).set k (padd L[k] r) = swept L r d (k + 1) bit := by
  apply List.ext_getElem
  · simp [swept_len]
  · intro m h1 h2
    rw [List.getElem_set, swept_at, swept_at]
    by_cases e : k = m
    · subst e; rw [if_pos rfl, if_pos ⟨hd, by omega, hb⟩]
    · rw [if_neg e]
      by_cases h3 : d < m ∧ m < k ∧ pbit (L[m]'(by rw [swept_len] at h2; exact h2)) bit = true
      · rw [if_pos h3, if_pos ⟨h3.1, by omega, h3.2.2⟩]
      · rw [if_neg h3, if_neg (fun h4 => h3 ⟨h4.1, by omega, h4.2.2⟩)]
theorem swept_skip {L : List Pau} {r : Pau} {d k bit : Nat} (h : k < L.length) (hb : pbit L[k] bit = false) : swept L r d k bit = swept L r d (k + 1) bit := by
  apply List.ext_getElem
  · rw [swept_len, swept_len]
  · intro m h1 h2
    rw [swept_at, swept_at]
    by_cases e : k = m
    · subst e
      rw [if_neg (by omega), if_neg (by rw [hb]; simp)]
    · by_cases h3 : d < m ∧ m < k ∧ pbit (L[m]'(by rw [swept_len] at h2; exact h2)) bit = true
      · rw [if_pos h3, if_pos ⟨h3.1, by omega, h3.2.2⟩]
      · rw [if_neg h3, if_neg (fun h4 => h3 ⟨h4.1, by omega, h4.2.2⟩)]

structure GInv (l : List Pau) (bit done : Nat) (L : List Pau) : Prop where
  len : L.length = l.length
  wf : ∀ p ∈ L, WF p
  ind : Ind (L.map xz) ↔ Ind (l.map xz)
  le : done ≤ L.length
  piv : ∀ (i : Nat) (h : i < L.length), i < done → ∃ b, pbit L[i] b = true ∧ ∀ (j : Nat) (hj : j < L.length), i < j → pbit L[j] b = false
  low : ∀ (j : Nat) (h : j < L.length), done ≤ j → ∀ b, b < bit → pbit L[j] b = false

theorem GInv.start {l : List Pau} (h : ∀ p ∈ l, WF p) : GInv l 0 0 l := ⟨rfl, h, Iff.rfl, Nat.zero_le _, fun i _ hi => absurd hi (Nat.not_lt_zero _), fun j _ _ b hb => absurd hb (Nat.not_lt_zero _)⟩
theorem GInv.skip {l L : List Pau} {bit done : Nat} (h : GInv l bit done L) (hno : ∀ (j : Nat) (hj : j < L.length), done ≤ j → pbit L[j] bit = false) : GInv l (bit + 1) done L :=
  ⟨h.len, h.wf, h.ind, h.le, h.piv, fun j hj hd b hb => by
    by_cases e : b = bit
    · subst e; exact hno j hj hd
    · exact h.low j hj hd b (by omega)⟩
theorem pbit_add (p r : Pau) (b : Nat) : pbit (padd p r) b = (pbit p b ^^ pbit r b) := bit_rx (xz p) (xz r) b
theorem swapped_at {L : List Pau} {i j m : Nat} (hi : i < L.length) (hj : j < L.length) (hm : m < (swapped L i j hi hj).length) :
    (swapped L i j hi hj)[m] = if j = m then L[i] else if i = m then L[j] else L[m]'(by rw [swapped_len] at hm; exact hm) := by
  simp only [swapped, List.getElem_set]

theorem GInv.step {l L : List Pau} {bit done at_ : Nat} (h : GInv l bit done L) (ha : at_ < L.length) (hd : done ≤ at_) (hb : pbit L[at_] bit = true) (hdl : done < L.length) (r : Pau) (hr : r = L[at_]) :
    GInv l (bit + 1) (done + 1) (swept (swapped L at_ done ha hdl) r done (swapped L at_ done ha hdl).length bit) := by
  have hsl := swapped_len ha hdl
  have hpm : (swapped L at_ done ha hdl).Perm L := List.set_set_perm ha hdl
  have hwfS : ∀ p ∈ swapped L at_ done ha hdl, WF p := fun p hp => h.wf p (hpm.mem_iff.1 hp)
  have hrw : WF r := by rw [hr]; exact h.wf _ (List.getElem_mem ha)
  have hSd : (swapped L at_ done ha hdl)[done]'(by rw [hsl]; exact hdl) = r := by rw [swapped_at, if_pos rfl, hr]
  -- rows from done on have no lower bits, and none of an earlier pivot
  have hSlow : ∀ (j : Nat) (hj : j < (swapped L at_ done ha hdl).length), done ≤ j → ∀ b, b < bit → pbit (swapped L at_ done ha hdl)[j] b = false := fun j hj hdj b hb' => by
    rw [swapped_at]
    split
    · exact h.low _ ha hd b hb'
    · split
      · exact h.low _ hdl (Nat.le_refl _) b hb'
      · exact h.low _ _ hdj b hb'
  have hSpiv : ∀ (i : Nat) (hi : i < (swapped L at_ done ha hdl).length), i < done → ∃ b, pbit (swapped L at_ done ha hdl)[i] b = true ∧ ∀ (j : Nat) (hj : j < (swapped L at_ done ha hdl).length), i < j → pbit (swapped L at_ done ha hdl)[j] b = false := fun i hi hid => by
    obtain ⟨b, h1, h2⟩ := h.piv i (by rw [hsl] at hi; exact hi) hid
    refine ⟨b, ?_, fun j hj hij => ?_⟩
    · rw [swapped_at, if_neg (by omega), if_neg (by omega)]; exact h1
    · rw [swapped_at]
      split
      · exact h2 _ ha (by omega)
      · split
        · exact h2 _ hdl hid
        · exact h2 _ _ hij
  generalize hS : swapped L at_ done ha hdl = S at *
  have hdS : done < S.length := by omega
  have hrb : pbit r bit = true := by rw [hr]; exact hb
  -- what a row behind done becomes
  have hat : ∀ (m : Nat) (hm : m < S.length), (swept S r done S.length bit)[m]'(by rw [swept_len]; exact hm) = if done < m ∧ pbit S[m] bit = true then padd S[m] r else S[m] := fun m hm => by
    rw [swept_at]
    by_cases h3 : done < m ∧ pbit S[m] bit = true
    · rw [if_pos h3, if_pos ⟨h3.1, hm, h3.2⟩]
    · rw [if_neg h3, if_neg (fun h4 => h3 ⟨h4.1, h4.2.2⟩)]
  refine ⟨by rw [swept_len, hsl, h.len], fun p hp => ?_, ?_, by rw [swept_len]; omega, fun i hi hid => ?_, fun j hj hdj b hb' => ?_⟩
  · obtain ⟨m, hm, rfl⟩ := List.mem_iff_getElem.1 hp
    have hm' : m < S.length := by rw [swept_len] at hm; exact hm
    rw [hat m hm']
    have hw := hwfS _ (List.getElem_mem hm')
    split
    · exact ⟨u_xor hw.x hrw.x, u_xor hw.z hrw.z, hw.n, hw.ph⟩
    · exact hw
  · rw [← h.ind, ← ind_perm (hpm.map xz)]
    have e1 : S.map xz = (S.take done).map xz ++ (xz r :: (S.drop (done + 1)).map xz) := by
      rw [← hSd, ← List.map_cons, ← List.drop_eq_getElem_cons hdS, ← List.map_append, List.take_append_drop]
    have e2 : (swept S r done S.length bit).map xz = (S.take done).map xz ++ (xz r :: ((S.drop (done + 1)).map xz).map (fun y => if bitOf y bit = true then rx y (xz r) else y)) := by
      apply List.ext_getElem
      · simp [swept_len]; omega
      · intro m h1 h2
        have hm' : m < S.length := by simp [swept_len] at h1; exact h1
        rw [List.getElem_map, hat m hm']
        rw [List.getElem_append]
        by_cases c1 : m < done
        · have hml : m < ((S.take done).map xz).length := by simp; omega
          rw [dif_pos hml, if_neg (by omega)]
          simp
        · have hml : ¬ m < ((S.take done).map xz).length := by simp; omega
          rw [dif_neg hml]
          have hl : ((S.take done).map xz).length = done := by simp; omega
          by_cases c2 : m = done
          · subst c2
            rw [if_neg (by omega), hSd]
            have h0 : m - ((S.take m).map xz).length = 0 := by omega
            simp only [h0, List.getElem_cons_zero]
          · obtain ⟨d, hd'⟩ : ∃ d, m - ((S.take done).map xz).length = d + 1 := ⟨m - done - 1, by omega⟩
            simp only [hd', List.getElem_cons_succ, List.getElem_map, List.getElem_drop]
            have hmm : done + 1 + d = m := by omega
            simp only [hmm]
            by_cases c3 : pbit S[m] bit = true
            · rw [if_pos ⟨by omega, c3⟩, if_pos (show bitOf (xz S[m]) bit = true from c3)]; rfl
            · rw [if_neg (fun h4 => c3 h4.2), if_neg (show ¬ bitOf (xz S[m]) bit = true from c3)]
    have had : Adds (xz r) (fun y => if bitOf y bit = true then rx y (xz r) else y) ((S.drop (done + 1)).map xz) := fun y _ => by
      by_cases hc : bitOf y bit = true
      · exact .inr (if_pos hc)
      · exact .inl (if_neg hc)
    rw [e1, e2]
    exact ind_app (span_adds had) (ind_adds had) _
  · have hi' : i < S.length := by rw [swept_len] at hi; exact hi
    by_cases c : i = done
    · subst c
      refine ⟨bit, ?_, fun j hj hij => ?_⟩
      · rw [hat i hi', if_neg (by omega), hSd]; exact hrb
      · have hj' : j < S.length := by rw [swept_len] at hj; exact hj
        rw [hat j hj']
        cases hc : pbit S[j] bit with
        | true => rw [if_pos ⟨hij, rfl⟩, pbit_add, hc, hrb]; rfl
        | false => rw [if_neg (fun h4 => by cases h4.2)]; exact hc
    · obtain ⟨b, h1, h2⟩ := hSpiv i hi' (by omega)
      refine ⟨b, ?_, fun j hj hij => ?_⟩
      · rw [hat i hi', if_neg (by omega)]; exact h1
      · have hj' : j < S.length := by rw [swept_len] at hj; exact hj
        rw [hat j hj']
        have hrz : pbit r b = false := by rw [← hSd]; exact h2 done hdS (by omega)
        split
        · rw [pbit_add, h2 j hj' hij, hrz]; rfl
        · exact h2 j hj' hij
  · have hj' : j < S.length := by rw [swept_len] at hj; exact hj
    rw [hat j hj']
    by_cases e : b = bit
    · subst e
      cases hc : pbit S[j] b with
      | true => rw [if_pos ⟨by omega, rfl⟩, pbit_add, hc, hrb]; rfl
      | false => rw [if_neg (fun h4 => by cases h4.2)]; exact hc
    · have h1 := hSlow j hj' (by omega) b (by omega)
      have h2 : pbit r b = false := by rw [← hSd]; exact hSlow done hdS (Nat.le_refl _) b (by omega)
      split
      · rw [pbit_add, h1, h2]; rfl
      · exact h1

theorem ind_of_piv : ∀ {L : List Pau}, (∀ (i : Nat) (h : i < L.length), ∃ b, pbit L[i] b = true ∧ ∀ (j : Nat) (hj : j < L.length), i < j → pbit L[j] b = false) → Ind (L.map xz)
  | [], _ => trivial
  | p :: L, h => by
    refine ⟨?_, ind_of_piv (L := L) fun i hi => ?_⟩
    · obtain ⟨b, h1, h2⟩ := h 0 (by simp)
      refine not_span h1 fun y hy => ?_
      obtain ⟨q, hq, rfl⟩ := List.mem_map.1 hy
      obtain ⟨j, hj, rfl⟩ := List.mem_iff_getElem.1 hq
      exact h2 (j + 1) (by simpa using hj) (by omega)
    · obtain ⟨b, h1, h2⟩ := h (i + 1) (by simpa using hi)
      exact ⟨b, h1, fun j hj hij => h2 (j + 1) (by simpa using hj) (by omega)⟩
theorem GInv.full {l L : List Pau} {bit : Nat} (h : GInv l bit L.length L) : Ind (l.map xz) := h.ind.1 (ind_of_piv fun i hi => h.piv i hi hi)
theorem not_ind_zero : ∀ {l : List Rw}, (0, 0) ∈ l → ¬ Ind l
  | [], h => by cases h
  | v :: vs, h => fun hi => by
    rcases List.mem_cons.1 h with e | h'
    · rw [← e] at hi; exact hi.1 (span_zero _)
    · exact not_ind_zero h' hi.2
theorem GInv.short {l L : List Pau} {done : Nat} (h : GInv l 128 done L) (hd : done < L.length) : ¬ Ind (l.map xz) := by
  rw [← h.ind]
  refine not_ind_zero ?_
  have hw := h.wf _ (List.getElem_mem hd)
  have hz : xz L[done] = (0, 0) := zero_of_bits hw.x hw.z fun b hb => h.low done hd (Nat.le_refl _) b hb
  rw [← hz]
  exact List.mem_map_of_mem (List.getElem_mem hd)
end Go.Proofs.Ytfnmembjgclhoaa.CD
