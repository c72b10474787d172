/- Rows of bits: independence, and what elimination tells of it. -/
import Derived.Test.YtfnmembjgclhoaaCodE
namespace Go.Proofs.Ytfnmembjgclhoaa.CD
open Go Go.RowKit
set_option linter.unusedVariables false
set_option linter.unusedSimpArgs false

def rx (a b : Rw) : Rw := (a.1 ^^^ b.1, a.2 ^^^ b.2)
theorem rx_comm (a b : Rw) : rx a b = rx b a := by simp [rx, Nat.xor_comm]
theorem rx_assoc (a b c : Rw) : rx (rx a b) c = rx a (rx b c) := by simp [rx, Nat.xor_assoc]
theorem rx_self (a : Rw) : rx a a = (0, 0) := by simp [rx]
theorem rx_zero (a : Rw) : rx a (0, 0) = a := by simp [rx]
theorem rx_cancel (a b : Rw) : rx (rx a b) b = a := by rw [rx_assoc, rx_self, rx_zero]
theorem rx_eq {a b : Rw} (h : rx a b = (0, 0)) : a = b := by rw [← rx_cancel a b, h, rx_comm, rx_zero]
theorem rx_swap (a b c : Rw) : rx (rx a b) c = rx (rx a c) b := by rw [rx_assoc, rx_comm b c, ← rx_assoc]

def Span : Rw → List Rw → Prop
  | v, [] => v = (0, 0)
  | v, u :: us => Span v us ∨ Span (rx v u) us
def Ind : List Rw → Prop
  | [] => True
  | v :: vs => ¬ Span v vs ∧ Ind vs

theorem span_zero : ∀ l, Span (0, 0) l
  | [] => rfl
  | _ :: us => .inl (span_zero us)
/-- A member more or less does not change what is spanned from. -/
theorem span_rx {v u : Rw} {us : List Rw} : Span (rx v u) (u :: us) ↔ Span v (u :: us) := by
  show Span (rx v u) us ∨ Span (rx (rx v u) u) us ↔ Span v us ∨ Span (rx v u) us
  rw [rx_cancel]; exact Or.comm
theorem span_two {v a b : Rw} {us : List Rw} : Span v (a :: b :: us) ↔ Span v (b :: a :: us) := by
  show (Span v us ∨ Span (rx v b) us) ∨ (Span (rx v a) us ∨ Span (rx (rx v a) b) us) ↔ (Span v us ∨ Span (rx v a) us) ∨ (Span (rx v b) us ∨ Span (rx (rx v b) a) us)
  rw [rx_swap v a b]
  constructor <;> rintro ((h | h) | (h | h)) <;> simp [h]
theorem span_perm {l l' : List Rw} (h : l.Perm l') : ∀ v, Span v l ↔ Span v l' := by
  induction h with
  | nil => intro v; exact Iff.rfl
  | cons a _ ih => intro v; show _ ∨ _ ↔ _ ∨ _; rw [ih, ih]
  | swap a b l => intro v; exact span_two
  | trans _ _ ih1 ih2 => intro v; exact (ih1 v).trans (ih2 v)
theorem ind_perm {l l' : List Rw} (h : l.Perm l') : Ind l ↔ Ind l' := by
  induction h with
  | nil => exact Iff.rfl
  | cons a p ih => show _ ∧ _ ↔ _ ∧ _; rw [ih, span_perm p]
  | swap a b l =>
    show (¬ (Span b l ∨ Span (rx b a) l)) ∧ (¬ Span a l ∧ Ind l) ↔ (¬ (Span a l ∨ Span (rx a b) l)) ∧ (¬ Span b l ∧ Ind l)
    rw [rx_comm b a]
    constructor
    · rintro ⟨h1, h2, h3⟩; exact ⟨fun h => h.elim h2 (fun h => h1 (.inr h)), fun h => h1 (.inl h), h3⟩
    · rintro ⟨h1, h2, h3⟩; exact ⟨fun h => h.elim h2 (fun h => h1 (.inr h)), fun h => h1 (.inl h), h3⟩
  | trans _ _ ih1 ih2 => exact ih1.trans ih2

/-- f adds r to some. -/
def Adds (r : Rw) (f : Rw → Rw) (t : List Rw) : Prop := ∀ y ∈ t, f y = y ∨ f y = rx y r
theorem span_adds {r : Rw} {f : Rw → Rw} : ∀ {t : List Rw}, Adds r f t → ∀ v, Span v (r :: t.map f) ↔ Span v (r :: t)
  | [], _, v => Iff.rfl
  | y :: t, h, v => by
    have ih := span_adds (t := t) (fun z hz => h z (by simp [hz]))
    rw [List.map_cons, span_two, span_two (b := y)]
    show Span v (r :: t.map f) ∨ Span (rx v (f y)) (r :: t.map f) ↔ Span v (r :: t) ∨ Span (rx v y) (r :: t)
    rw [ih, ih]
    rcases h y (by simp) with e | e
    · rw [e]
    · rw [e, ← rx_assoc, span_rx]
theorem ind_adds {r : Rw} {f : Rw → Rw} : ∀ {t : List Rw}, Adds r f t → (Ind (r :: t.map f) ↔ Ind (r :: t))
  | [], _ => Iff.rfl
  | y :: t, h => by
    have h' : Adds r f t := fun z hz => h z (by simp [hz])
    have ih := ind_adds h'
    have p1 : (r :: f y :: t.map f).Perm (f y :: r :: t.map f) := List.Perm.swap _ _ _
    have p2 : (r :: y :: t).Perm (y :: r :: t) := List.Perm.swap _ _ _
    rw [List.map_cons, ind_perm p1, ind_perm p2]
    show ¬ Span (f y) (r :: t.map f) ∧ Ind (r :: t.map f) ↔ ¬ Span y (r :: t) ∧ Ind (r :: t)
    rw [ih, span_adds h']
    rcases h y (by simp) with e | e
    · rw [e]
    · rw [e, span_rx]
theorem span_app {a b : List Rw} (h : ∀ v, Span v a ↔ Span v b) : ∀ (p : List Rw) v, Span v (p ++ a) ↔ Span v (p ++ b)
  | [], v => h v
  | x :: p, v => by show Span v (p ++ a) ∨ Span (rx v x) (p ++ a) ↔ Span v (p ++ b) ∨ Span (rx v x) (p ++ b); rw [span_app h p, span_app h p]
theorem ind_app {a b : List Rw} (h : ∀ v, Span v a ↔ Span v b) (hi : Ind a ↔ Ind b) : ∀ (p : List Rw), Ind (p ++ a) ↔ Ind (p ++ b)
  | [] => hi
  | x :: p => by show ¬ Span x (p ++ a) ∧ Ind (p ++ a) ↔ ¬ Span x (p ++ b) ∧ Ind (p ++ b); rw [ind_app h hi p, span_app h p]

/-! bits -/
def bitOf (r : Rw) (b : Nat) : Bool := if b < 64 then r.1.testBit b else r.2.testBit (b - 64)
theorem bit_rx (a b : Rw) (i : Nat) : bitOf (rx a b) i = (bitOf a i ^^ bitOf b i) := by
  unfold bitOf rx
  split <;> simp
theorem not_span {b : Nat} : ∀ {l : List Rw} {v : Rw}, bitOf v b = true → (∀ y ∈ l, bitOf y b = false) → ¬ Span v l
  | [], v, hv, _ => fun e => by
    have e' : v = (0, 0) := e
    rw [e'] at hv
    simp [bitOf] at hv
  | u :: us, v, hv, h => by
    have h1 := not_span (l := us) hv (fun y hy => h y (by simp [hy]))
    have h2 := not_span (l := us) (v := rx v u) (by rw [bit_rx, hv, h u (by simp)]; rfl) (fun y hy => h y (by simp [hy]))
    exact fun e => e.elim h1 h2
theorem zero_of_bits {r : Rw} (hx : U r.1) (hz : U r.2) (h : ∀ b, b < 128 → bitOf r b = false) : r = (0, 0) := by
  have h1 : r.1 = 0 := by
    refine Nat.eq_of_testBit_eq fun i => ?_
    rw [Nat.zero_testBit]
    by_cases hi : i < 64
    · have := h i (by omega); simpa [bitOf, hi] using this
    · exact B.bit_ge hx (by omega)
  have h2 : r.2 = 0 := by
    refine Nat.eq_of_testBit_eq fun i => ?_
    rw [Nat.zero_testBit]
    by_cases hi : i < 64
    · have := h (64 + i) (by omega)
      have h3 : ¬ 64 + i < 64 := by omega
      simpa [bitOf, h3] using this
    · exact B.bit_ge hz (by omega)
  exact Prod.ext h1 h2

/-! the program's elimination -/
theorem and_pow {y t : Nat} : ((y &&& 2 ^ t) != 0) = y.testBit t := by
  cases h : y.testBit t with
  | true =>
    have : (y &&& 2 ^ t).testBit t = true := by simp [h]
    rw [bne_iff_ne]
    intro e
    rw [e] at this
    simp at this
  | false =>
    have : y &&& 2 ^ t = 0 := by
      refine Nat.eq_of_testBit_eq fun i => ?_
      rw [Nat.testBit_and, Nat.testBit_two_pow, Nat.zero_testBit]
      by_cases e : t = i
      · subst e; simp [h]
      · simp [e]
    simp [this]
/-- A row that is not nought has a bit by which 'hits' goes. -/
theorem hits_bit {r : Rw} (hx : U r.1) (hz : U r.2) (h0 : r ≠ (0, 0)) : ∃ b, b < 128 ∧ bitOf r b = true ∧ ∀ y, hits r y = bitOf y b := by
  by_cases hx0 : r.1 = 0
  · have hz0 : r.2 ≠ 0 := fun e => h0 (Prod.ext hx0 e)
    obtain ⟨t, ht, e, h1, _⟩ := lowb_spec hz hz0
    have h3 : ¬ 64 + t < 64 := by omega
    refine ⟨64 + t, by omega, by simp [bitOf, h3, h1], fun y => ?_⟩
    have hl0 : lowb 0 = 0 := rfl
    simp [hits, hx0, hl0, e, bitOf, h3]
    have := and_pow (y := y.2) (t := t)
    simpa using this
  · obtain ⟨t, ht, e, h1, _⟩ := lowb_spec hx hx0
    refine ⟨t, by omega, by simp [bitOf, ht, h1], fun y => ?_⟩
    have hp : (2 : Nat) ^ t ≠ 0 := Nat.ne_of_gt (Nat.two_pow_pos t)
    have e0 : (2 ^ t != 0) = true := by simp
    have e1 : (r.1 == 0) = false := by simp [hx0]
    unfold hits bitOf
    rw [e, e0, e1, if_pos ht, and_pow]
    simp
theorem clear_adds (r : Rw) (t : List Rw) : Adds r (clear r) t := fun y _ => by
  unfold clear rx
  split <;> simp
theorem clear_u {r y : Rw} (hr : U r.1 ∧ U r.2) (hy : U y.1 ∧ U y.2) : U (clear r y).1 ∧ U (clear r y).2 := by
  unfold clear
  split
  · exact ⟨u_xor hy.1 hr.1, u_xor hy.2 hr.2⟩
  · exact hy
theorem elim_iff : ∀ (n : Nat) (l : List Rw), l.length = n → (∀ y ∈ l, U y.1 ∧ U y.2) → (elim l = true ↔ ¬ Ind l)
  | _, [], _, _ => by simp [elim, Ind]
  | 0, _ :: _, h, _ => by simp at h
  | n + 1, r :: t, h, hu => by
    rw [elim]
    by_cases h0 : r = (0, 0)
    · rw [if_pos h0, h0]
      simp only [true_iff]
      exact fun hi => hi.1 (span_zero _)
    · rw [if_neg h0]
      have hr := hu r (by simp)
      obtain ⟨b, _, hb, hh⟩ := hits_bit hr.1 hr.2 h0
      have ih := elim_iff n (t.map (clear r)) (by simpa using h) (fun y hy => by
        obtain ⟨z, hz, rfl⟩ := List.mem_map.1 hy
        exact clear_u hr (hu z (by simp [hz])))
      rw [ih, ← ind_adds (clear_adds r t)]
      show ¬ Ind (t.map (clear r)) ↔ ¬ (¬ Span r (t.map (clear r)) ∧ Ind (t.map (clear r)))
      have hns : ¬ Span r (t.map (clear r)) := not_span hb fun y hy => by
        obtain ⟨z, _, rfl⟩ := List.mem_map.1 hy
        unfold clear
        rw [hh z]
        cases hz : bitOf z b with
        | true =>
          rw [if_pos rfl]
          show bitOf (rx z r) b = false
          rw [bit_rx, hz, hb]; rfl
        | false => simpa using hz
      simp [hns]
end Go.Proofs.Ytfnmembjgclhoaa.CD
