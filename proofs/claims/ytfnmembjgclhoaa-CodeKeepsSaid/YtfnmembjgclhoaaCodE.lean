/- Elimination: is some product of the strings the identity? -/
import Derived.Test.YtfnmembjgclhoaaCodT
import Derived.Laws.StructEq
namespace Go.Proofs.Ytfnmembjgclhoaa.CD
open Go Go.RowKit
set_option linter.unusedVariables false
set_option linter.unusedSimpArgs false

abbrev Rw := Nat × Nat
def xz (p : Pau) : Rw := (p.x, p.z)
def lowb (x : Nat) : Nat := x &&& ((2 ^ 64 - x) % 2 ^ 64)
/-- Is the lowest one of r in y? -/
def hits (r y : Rw) : Bool := (lowb r.1 != 0 && (y.1 &&& lowb r.1) != 0) || (r.1 == 0 && (y.2 &&& lowb r.2) != 0)
def clear (r y : Rw) : Rw := if hits r y then (y.1 ^^^ r.1, y.2 ^^^ r.2) else y
def elim : List Rw → Bool
  | [] => false
  | r :: t => if r = (0, 0) then true else elim (t.map (clear r))
termination_by l => l.length
decreasing_by simp

theorem u_low {x : Nat} (hx : U x) : U (lowb x) := B.and_u' hx (Nat.mod_lt _ (Nat.two_pow_pos 64))
theorem low_eq {x : Nat} (hx : U x) : Go.bits .and .u64 (x : Int) (IntKind.u64.wrap (-(x : Int))) = ((lowb x : Nat) : Int) := by
  have h : IntKind.u64.wrap (-(x : Int)) = (((2 ^ 64 - x) % 2 ^ 64 : Nat) : Int) := by
    rw [B.wrap_u64]
    have hx' : x < 18446744073709551616 := hx
    have : (2 : Nat) ^ 64 = 18446744073709551616 := by decide
    rw [this]
    omega
  rw [h]
  exact B.and_u hx (Nat.mod_lt _ (Nat.two_pow_pos 64))

theorem low_bit : ∀ (n x : Nat), x < n → x ≠ 0 → ∃ t, (∀ i, (x.testBit i && !(x - 1).testBit i) = decide (i = t)) ∧ x.testBit t = true ∧ ∀ i, i < t → x.testBit i = false
  | 0, x, h, _ => absurd h (Nat.not_lt_zero _)
  | n + 1, x, h, h0 => by
    rcases Nat.mod_two_eq_zero_or_one x with e | e
    · obtain ⟨y, rfl⟩ : ∃ y, x = 2 * y := ⟨x / 2, by omega⟩
      have hy : y ≠ 0 := by omega
      obtain ⟨t, h1, h2, h3⟩ := low_bit n y (by omega) hy
      have e1 : (2 * y - 1) / 2 = y - 1 := by omega
      have e2 : 2 * y / 2 = y := by omega
      refine ⟨t + 1, fun i => ?_, ?_, fun i hi => ?_⟩
      · cases i with
        | zero => simp
        | succ i =>
          rw [Nat.testBit_succ, Nat.testBit_succ, e1, e2, h1 i]
          simp
      · rw [Nat.testBit_succ, e2]; exact h2
      · cases i with
        | zero => simp
        | succ i => rw [Nat.testBit_succ, e2]; exact h3 i (by omega)
    · have e1 : (x - 1) / 2 = x / 2 := by omega
      have e3 : (x - 1) % 2 = 0 := by omega
      refine ⟨0, fun i => ?_, ?_, fun i hi => absurd hi (Nat.not_lt_zero _)⟩
      · cases i with
        | zero => simp [Nat.testBit_zero, e, e3]
        | succ i =>
          rw [Nat.testBit_succ, Nat.testBit_succ, e1]
          cases (x / 2).testBit i <;> simp
      · simp [Nat.testBit_zero, e]
theorem lowb_spec {x : Nat} (hx : U x) (h0 : x ≠ 0) : ∃ t, t < 64 ∧ lowb x = 2 ^ t ∧ x.testBit t = true ∧ ∀ i, i < t → x.testBit i = false := by
  obtain ⟨t, h1, h2, h3⟩ := low_bit (x + 1) x (Nat.lt_succ_self x) h0
  have ht : t < 64 := by
    apply Classical.byContradiction
    intro h
    rw [B.bit_ge hx (by omega)] at h2
    cases h2
  refine ⟨t, ht, ?_, h2, h3⟩
  have hx' : x < 2 ^ 64 := hx
  have e : (2 ^ 64 - x) % 2 ^ 64 = 2 ^ 64 - ((x - 1) + 1) := by
    rw [Nat.mod_eq_of_lt (by omega)]; congr 1; omega
  unfold lowb
  rw [e]
  refine Nat.eq_of_testBit_eq fun i => ?_
  rw [Nat.testBit_and, Nat.testBit_two_pow_sub_succ (by omega), Nat.testBit_two_pow]
  by_cases hi : i < 64
  · have := h1 i
    simp only [hi, decide_true, Bool.true_and]
    rw [this]
    simp [eq_comm]
  · rw [B.bit_ge hx (by omega)]
    have : ¬ t = i := by omega
    simp [this]
theorem lowb_ne {x : Nat} (hx : U x) (h0 : x ≠ 0) : lowb x ≠ 0 := by
  obtain ⟨t, _, h, _⟩ := lowb_spec hx h0
  rw [h]; exact Nat.ne_of_gt (Nat.two_pow_pos t)

structure Rows (wr : World) (g : Nat) (L : List Rw) : Prop where
  at_ : ∀ (k : Nat) (h : k < L.length), wr.cell? ⟨g, k * 2, none⟩ = some (.int .u64 (L[k].1 : Int)) ∧ wr.cell? ⟨g, k * 2 + 1, none⟩ = some (.int .u64 (L[k].2 : Int))
  free : ∀ i, wr.frozen? ⟨g, i, none⟩ = false
  lt : g < wr.heap.size
  u : ∀ y ∈ L, U y.1 ∧ U y.2

theorem Rows.below {wr w' : World} {g B : Nat} {L : List Rw} (h : Rows wr g L) (hB : g < B) (hb : Below B wr w') : Rows w' g L :=
  ⟨fun k hk => ⟨(hb.cell (p := ⟨g, k * 2, none⟩) hB).trans (h.at_ k hk).1, (hb.cell (p := ⟨g, k * 2 + 1, none⟩) hB).trans (h.at_ k hk).2⟩, fun i => (hb.frozen (p := ⟨g, i, none⟩) hB).trans (h.free i), Nat.lt_of_lt_of_le h.lt hb.size, h.u⟩
theorem Rows.drew {wr : World} {g : Nat} {L : List Rw} (h : Rows wr g L) : Rows wr.drew g L := h.below h.lt ⟨rfl, rfl, rfl, Nat.le_refl _, fun _ _ => rfl⟩
theorem Rows.setX {wr : World} {g : Nat} {L : List Rw} (h : Rows wr g L) {k : Nat} (hk : k < L.length) {v : Nat} (hv : U v) : Rows (wr.setCell ⟨g, k * 2, none⟩ (.int .u64 (v : Int))) g (L.set k (v, L[k].2)) := by
  refine ⟨fun m hm => ?_, fun i => by rw [World.frozen?_setCell]; exact h.free i, by simpa using h.lt, fun y hy => ?_⟩
  · have hm' : m < L.length := by simpa using hm
    by_cases e : m = k
    · subst e
      refine ⟨?_, ?_⟩
      · rw [World.cell?_setCell_same' _ _ _ (by rw [(h.at_ m hm').1]; rfl)]; simp
      · rw [World.cell?_setCell_other _ _ _ _ (by simp), (h.at_ m hm').2]; simp
    · refine ⟨?_, ?_⟩
      · rw [World.cell?_setCell_other _ _ _ _ (by simp <;> omega), (h.at_ m hm').1]; rw [List.getElem_set_ne (Ne.symm e)]
      · rw [World.cell?_setCell_other _ _ _ _ (by simp <;> omega), (h.at_ m hm').2]; rw [List.getElem_set_ne (Ne.symm e)]
  · rcases List.mem_or_eq_of_mem_set hy with hy | rfl
    · exact h.u y hy
    · exact ⟨hv, (h.u _ (List.getElem_mem hk)).2⟩
theorem Rows.setZ {wr : World} {g : Nat} {L : List Rw} (h : Rows wr g L) {k : Nat} (hk : k < L.length) {v : Nat} (hv : U v) : Rows (wr.setCell ⟨g, k * 2 + 1, none⟩ (.int .u64 (v : Int))) g (L.set k (L[k].1, v)) := by
  refine ⟨fun m hm => ?_, fun i => by rw [World.frozen?_setCell]; exact h.free i, by simpa using h.lt, fun y hy => ?_⟩
  · have hm' : m < L.length := by simpa using hm
    by_cases e : m = k
    · subst e
      refine ⟨?_, ?_⟩
      · rw [World.cell?_setCell_other _ _ _ _ (by simp), (h.at_ m hm').1]; simp
      · rw [World.cell?_setCell_same' _ _ _ (by rw [(h.at_ m hm').2]; rfl)]; simp
    · refine ⟨?_, ?_⟩
      · rw [World.cell?_setCell_other _ _ _ _ (by simp <;> omega), (h.at_ m hm').1]; rw [List.getElem_set_ne (Ne.symm e)]
      · rw [World.cell?_setCell_other _ _ _ _ (by simp <;> omega), (h.at_ m hm').2]; rw [List.getElem_set_ne (Ne.symm e)]
  · rcases List.mem_or_eq_of_mem_set hy with hy | rfl
    · exact h.u y hy
    · exact ⟨(h.u _ (List.getElem_mem hk)).1, hv⟩
theorem Rows.store {wr : World} {g : Nat} {L : List Rw} (h : Rows wr g L) {k : Nat} (hk : k < L.length) {a b : Nat} (ha : U a) (hb : U b) :
    Rows ((wr.setCell ⟨g, k * 2, none⟩ (.int .u64 (a : Int))).setCell ⟨g, k * 2 + 1, none⟩ (.int .u64 (b : Int))) g (L.set k (a, b)) := by
  have h2 := (h.setX hk ha).setZ (k := k) (by simpa using hk) hb
  simpa using h2
theorem Rows.other {wr : World} {g : Nat} {L : List Rw} (h : Rows wr g L) {a : Addr} (v : Value) (ha : a.block ≠ g) : Rows (wr.setCell a v) g L :=
  ⟨fun k hk => ⟨(World.cell?_setCell_other _ _ _ _ (fun e => ha (by rw [e]))).trans (h.at_ k hk).1, (World.cell?_setCell_other _ _ _ _ (fun e => ha (by rw [e]))).trans (h.at_ k hk).2⟩, fun i => by rw [World.frozen?_setCell]; exact h.free i, by simpa using h.lt, h.u⟩

theorem info83 : (Try.prog.info? 83).map (fun i => (i.zero, i.size, i.bytes)) = some (some (.agg #[.int .u64 0, .int .u64 0]), 2, 16) := by kernel_rfl
theorem eql83 (a b c d : Int) (W : World) : (binOp .eql 83 (.agg #[.int .u64 a, .int .u64 b]) (.agg #[.int .u64 c, .int .u64 d])).run Try.prog W = .ok (.bool (a == c && b == d)) W := by
  have u := Try.underlying25
  have a1 := Try.isAgg25
  have z := Try.sizeOf25
  have hS : Try.prog.underlying 83 = some (.struct (Try.prog.fieldsOf 83)) := by kernel_rfl
  have hp : Try.prog.stoodInHeld 83 = false := by kernel_rfl
  rw [run_eql_struct, show (10000 : Nat) = 9999 + 1 from rfl, run_equalIn_agg W 9999 83 _ _ hS hp]
  simp only [Program.fieldsOf, Try.underlying83]
  go_simp
  by_cases h1 : a = c <;> by_cases h2 : b = d <;> simp [h1, h2]
theorem guard83 : Try.prog.eqGuardType Try.prog.depth 83 = false := by kernel_rfl

theorem made_cell (m j : Nat) (h : j < m) : (madeCells #[.int .u64 0, .int .u64 0] m).toList[j]? = some (.int .u64 0) := by
  have h2 := Nat.mod_lt j (show 2 > 0 by decide)
  rw [Array.getElem?_toList]
  simp [madeCells, h]
  rcases Nat.lt_or_ge (j % 2) 1 with h3 | h3
  · have h4 : j % 2 = 0 := by omega
    simp [h4]
  · have h4 : j % 2 = 1 := by omega
    simp [h4]

/-- The rows, filled as far as i. -/
def filled (ps : List Pau) (i : Nat) : List Rw := (ps.take i).map xz ++ List.replicate (ps.length - i) (0, 0)
theorem filled_len (ps : List Pau) {i : Nat} (h : i ≤ ps.length) : (filled ps i).length = ps.length := by simp [filled]; omega
theorem filled_zero (ps : List Pau) : filled ps 0 = List.replicate ps.length (0, 0) := by simp [filled]
theorem filled_all (ps : List Pau) : filled ps ps.length = ps.map xz := by simp [filled]
theorem filled_step (ps : List Pau) {i : Nat} (h : i < ps.length) : (filled ps i).set i (xz ps[i]) = filled ps (i + 1) := by
  unfold filled
  obtain ⟨d, hd⟩ : ∃ d, ps.length - i = d + 1 := ⟨ps.length - i - 1, by omega⟩
  have hl : ((ps.take i).map xz).length = i := by simp; omega
  rw [List.set_append_right _ _ (by omega), hl, Nat.sub_self, hd, List.replicate_succ, List.set_cons_zero, List.take_succ_eq_append_getElem h, List.map_append, List.append_assoc]
  rw [show ps.length - (i + 1) = d by omega]
  rfl

/-- One row cleared out of those behind it, as far as k. -/
def cleared (r : Rw) (L : List Rw) (i k : Nat) : List Rw := L.mapIdx fun m y => if i < m ∧ m < k then clear r y else y
theorem cleared_len (r : Rw) (L : List Rw) (i k : Nat) : (cleared r L i k).length = L.length := by simp [cleared]
theorem cleared_at (r : Rw) (L : List Rw) (i k m : Nat) (h : m < (cleared r L i k).length) : (cleared r L i k)[m] = if i < m ∧ m < k then clear r (L[m]'(by rw [cleared_len] at h; exact h)) else L[m]'(by rw [cleared_len] at h; exact h) := by
  simp [cleared]
theorem cleared_start (r : Rw) (L : List Rw) (i : Nat) : cleared r L i (i + 1) = L := by
  unfold cleared
  apply List.ext_getElem
  · simp
  · intro m h1 h2
    simp only [List.getElem_mapIdx]
    rw [if_neg (by omega)]
theorem cleared_get (r : Rw) (L : List Rw) (i k : Nat) (h : k < L.length) : (cleared r L i k)[k]'(by rw [cleared_len]; exact h) = L[k] := by
  unfold cleared
  simp only [List.getElem_mapIdx]
  rw [if_neg (by omega)]
theorem cleared_step (r : Rw) (L : List Rw) (i k : Nat) (hk : i < k) (h : k < L.length) : (cleared r L i k).set k (clear r L[k]) = cleared r L i (k + 1) := by
  apply List.ext_getElem
  · simp [cleared_len]
  · intro m h1 h2
    rw [List.getElem_set]
    rw [cleared_at, cleared_at]
    by_cases e : k = m
    · subst e
      rw [if_pos rfl, if_pos ⟨hk, by omega⟩]
    · rw [if_neg e]
      by_cases h3 : i < m ∧ m < k
      · rw [if_pos h3, if_pos ⟨h3.1, by omega⟩]
      · rw [if_neg h3, if_neg (by omega)]
theorem cleared_drop (r : Rw) (L : List Rw) (i : Nat) : (cleared r L i L.length).drop (i + 1) = (L.drop (i + 1)).map (clear r) := by
  apply List.ext_getElem
  · simp [cleared_len]
  · intro m h1 h2
    have h3 : i + 1 + m < L.length := by simp [cleared_len] at h1; omega
    rw [List.getElem_drop, List.getElem_map, List.getElem_drop]
    unfold cleared
    simp only [List.getElem_mapIdx]
    rw [if_pos ⟨by omega, h3⟩]
theorem elim_drop {L : List Rw} {i : Nat} (h : i < L.length) : elim (L.drop i) = if L[i] = (0, 0) then true else elim ((cleared L[i] L i L.length).drop (i + 1)) := by
  rw [List.drop_eq_getElem_cons h, elim, cleared_drop]

theorem elim_end {L : List Rw} : elim (L.drop L.length) = false := by rw [List.drop_length, elim]
end Go.Proofs.Ytfnmembjgclhoaa.CD
