/- CodeNamed: what the walk keeps. -/
import Derived.Test.YtfnmembjgclhoaaCodAQ
import Derived.Test.YtfnmembjgclhoaaCodAN
import Derived.Test.YtfnmembjgclhoaaCodAP
import Derived.Test.YtfnmembjgclhoaaCodAL
namespace Go.Proofs.Ytfnmembjgclhoaa.CD
open Go Go.RowKit
set_option linter.unusedVariables false
set_option linter.unusedSimpArgs false

/-- A code in a box. -/
structure BoxAt (W : World) (B : Nat) (c : Cod) : Prop where
  lt : B < W.heap.size
  c0 : W.cell? ⟨B, 0, none⟩ = some (.int .i64 c.n)
  c1 : W.cell? ⟨B, 1, none⟩ = some (Value.slice c.ga c.gs.length c.gc)
  c2 : W.cell? ⟨B, 2, none⟩ = some (Value.slice c.xa c.xs.length c.xc)
  c3 : W.cell? ⟨B, 3, none⟩ = some (Value.slice c.za c.zs.length c.zc)
theorem BoxAt.new (W : World) (c : Cod) : BoxAt (W.alloc (.cells #[.int .i64 c.n, (Value.slice c.ga c.gs.length c.gc), (Value.slice c.xa c.xs.length c.xc), (Value.slice c.za c.zs.length c.zc)] 24)) W.heap.size c :=
  ⟨by simp, cell_of (newAt _ _ rfl) rfl, cell_of (newAt _ _ rfl) rfl, cell_of (newAt _ _ rfl) rfl, cell_of (newAt _ _ rfl) rfl⟩
theorem BoxAt.step {W W' : World} {B : Nat} {c : Cod} (h : BoxAt W B c) (hb : Below W.heap.size W W') : BoxAt W' B c :=
  ⟨Nat.lt_of_lt_of_le h.lt hb.size, (hb.cell (p := ⟨B, 0, none⟩) h.lt).trans h.c0, (hb.cell (p := ⟨B, 1, none⟩) h.lt).trans h.c1, (hb.cell (p := ⟨B, 2, none⟩) h.lt).trans h.c2, (hb.cell (p := ⟨B, 3, none⟩) h.lt).trans h.c3⟩

/-- A code that a call has made: its lists lie in blocks of their own. -/
structure Own (w : World) (n : Int) (gs xs zs : List Pau) (d : Int) (c : Cod) (W : World) : Prop where
  code : CodAt W c
  below : Below w.heap.size w W
  good : Good c
  small : c.n ≤ 8
  dist : distV c = d
  like : c.n = n ∧ c.gs = gs ∧ c.xs = xs ∧ c.zs = zs
  own : ∃ g x z, c.ga = some ⟨g, 0, none⟩ ∧ c.xa = some ⟨x, 0, none⟩ ∧ c.za = some ⟨z, 0, none⟩ ∧ RowsP W g c.gs ∧ RowsP W x c.xs ∧ RowsP W z c.zs ∧ w.heap.size ≤ g ∧ g < x ∧ x < z
theorem Fresh.rows {W : World} {B g k : Nat} {ps : List Pau} (h : Fresh W B g k ps) : RowsP W g ps := RowsP.of_own rfl h.own
theorem Made.own {w W : World} {n : Int} {G X Z : List ByteArray} {d : Int} {g gk x xk z zk : Nat} (h : Made w n G X Z g gk x xk z zk W) (hc : CodAt W (codeOf n G X Z g gk x xk z zk)) (hg : Good (codeOf n G X Z g gk x xk z zk)) (hn : n ≤ 8) (hd : distV (codeOf n G X Z g gk x xk z zk) = d) :
    Own w n (G.map spell) (X.map spell) (Z.map spell) d (codeOf n G X Z g gk x xk z zk) W :=
  ⟨hc, h.below, hg, hn, hd, ⟨rfl, rfl, rfl, rfl⟩, g, x, z, rfl, rfl, rfl, h.fg.rows, h.fx.rows, h.fz.rows, h.fg.lo, h.gx, h.xz⟩
/-- The call f of the name s makes such a code. -/
def Makes (f : Nat) (s : ByteArray) (n : Int) (gs xs zs : List Pau) (d : Int) : Prop :=
  ∀ w : World, Calls Try.prog f #[.string s] w fun e w' => ∃ c, e = .returned (.tuple #[(Value.agg #[.int .i64 c.n, .slice c.ga c.gs.length c.gc, .slice c.xa c.xs.length c.xc, .slice c.za c.zs.length c.zc]), .int .i64 0]) ∧ Own w n gs xs zs d c w'
theorem makes_bit3 : Makes 21 bit3W 3 (bit3G.map spell) (bit3X.map spell) (bit3Z.map spell) 1 := fun w => (named_bit3 w).mono fun e w' ⟨g, gk, x, xk, z, zk, hm, he⟩ =>
  ⟨_, he, hm.own (hm.code (by unfold I64; omega) (by decide) (by decide) (by decide)) (bit3_good ..) (by decide) (bit3_dist ..)⟩
theorem refmakes_bit3 : Makes 20 bit3W 3 (bit3G.map spell) (bit3X.map spell) (bit3Z.map spell) 1 := fun w => (refnamed_bit3 w).mono fun e w' ⟨g, gk, x, xk, z, zk, hm, he⟩ =>
  ⟨_, he, hm.own (hm.code (by unfold I64; omega) (by decide) (by decide) (by decide)) (bit3_good ..) (by decide) (bit3_dist ..)⟩
theorem makes_phase3 : Makes 21 phase3W 3 (phase3G.map spell) (phase3X.map spell) (phase3Z.map spell) 1 := fun w => (named_phase3 w).mono fun e w' ⟨g, gk, x, xk, z, zk, hm, he⟩ =>
  ⟨_, he, hm.own (hm.code (by unfold I64; omega) (by decide) (by decide) (by decide)) (phase3_good ..) (by decide) (phase3_dist ..)⟩
theorem refmakes_phase3 : Makes 20 phase3W 3 (phase3G.map spell) (phase3X.map spell) (phase3Z.map spell) 1 := fun w => (refnamed_phase3 w).mono fun e w' ⟨g, gk, x, xk, z, zk, hm, he⟩ =>
  ⟨_, he, hm.own (hm.code (by unfold I64; omega) (by decide) (by decide) (by decide)) (phase3_good ..) (by decide) (phase3_dist ..)⟩
theorem makes_five : Makes 21 fiveW 5 (fiveG.map spell) (fiveX.map spell) (fiveZ.map spell) 3 := fun w => (named_five w).mono fun e w' ⟨g, gk, x, xk, z, zk, hm, he⟩ =>
  ⟨_, he, hm.own (hm.code (by unfold I64; omega) (by decide) (by decide) (by decide)) (five_good ..) (by decide) (five_dist ..)⟩
theorem refmakes_five : Makes 20 fiveW 5 (fiveG.map spell) (fiveX.map spell) (fiveZ.map spell) 3 := fun w => (refnamed_five w).mono fun e w' ⟨g, gk, x, xk, z, zk, hm, he⟩ =>
  ⟨_, he, hm.own (hm.code (by unfold I64; omega) (by decide) (by decide) (by decide)) (five_good ..) (by decide) (five_dist ..)⟩
theorem makes_steane : Makes 21 steaneW 7 (steaneG.map spell) (steaneX.map spell) (steaneZ.map spell) 3 := fun w => (named_steane w).mono fun e w' ⟨g, gk, x, xk, z, zk, hm, he⟩ =>
  ⟨_, he, hm.own (hm.code (by unfold I64; omega) (by decide) (by decide) (by decide)) (steane_good ..) (by decide) (steane_dist ..)⟩
theorem refmakes_steane : Makes 20 steaneW 7 (steaneG.map spell) (steaneX.map spell) (steaneZ.map spell) 3 := fun w => (refnamed_steane w).mono fun e w' ⟨g, gk, x, xk, z, zk, hm, he⟩ =>
  ⟨_, he, hm.own (hm.code (by unfold I64; omega) (by decide) (by decide) (by decide)) (steane_good ..) (by decide) (steane_dist ..)⟩

/-- Only blocks of S have turned. -/
structure Only (S : Nat → Prop) (W0 W : World) : Prop where
  os : W.os = W0.os
  tape : W.tape = W0.tape
  output : W.output = W0.output
  size : W0.heap.size ≤ W.heap.size
  block : ∀ b, b < W0.heap.size → ¬ S b → W.heap[b]? = W0.heap[b]?
theorem Only.refl (S : Nat → Prop) (W : World) : Only S W W := ⟨rfl, rfl, rfl, Nat.le_refl _, fun _ _ _ => rfl⟩
theorem Only.set4 {S : Nat → Prop} {W0 W : World} (h : Only S W0 W) {g : Nat} (hg : S g) (o : Nat) (p : Pau) : Only S W0 (set4 W g o p) := by
  refine ⟨h.os, h.tape, h.output, by unfold CD.set4; simpa using h.size, fun b hb hs => ?_⟩
  have hne : b ≠ g := fun e => hs (e ▸ hg)
  rw [← h.block b hb hs]
  unfold CD.set4
  rw [Below.heap_setCell _ _ _ _ hne, Below.heap_setCell _ _ _ _ hne, Below.heap_setCell _ _ _ _ hne, Below.heap_setCell _ _ _ _ hne]
theorem Only.cell {S : Nat → Prop} {W0 W : World} (h : Only S W0 W) {b : Nat} (hb : b < W0.heap.size) (hs : ¬ S b) (o : Nat) : W.cell? ⟨b, o, none⟩ = W0.cell? ⟨b, o, none⟩ :=
  World.cell?_of_block (w := W0) (h.block b hb hs)
theorem Only.box {S : Nat → Prop} {W0 W : World} (h : Only S W0 W) {B : Nat} {c : Cod} (hx : BoxAt W0 B c) (hs : ¬ S B) : BoxAt W B c :=
  ⟨Nat.lt_of_lt_of_le hx.lt h.size, (h.cell hx.lt hs 0).trans hx.c0, (h.cell hx.lt hs 1).trans hx.c1, (h.cell hx.lt hs 2).trans hx.c2, (h.cell hx.lt hs 3).trans hx.c3⟩
theorem Only.row {S : Nat → Prop} {W0 W : World} (h : Only S W0 W) {b : Nat} {c : Nat} {ps : List Pau} (hr : Row W0 (some ⟨b, 0, none⟩) c ps) (hs : ¬ S b) : Row W (some ⟨b, 0, none⟩) c ps := by
  refine { hr with at_ := ?_ }
  rcases hr.at_ with e | ⟨b', off, e, hc⟩
  · exact .inl e
  · injection e with e
    injection e with e1 e2
    subst e1
    right
    refine ⟨b, off, by rw [e2], fun j hj => ?_⟩
    have hb := block_lt (hc j hj).1
    obtain ⟨c0, c1, c2, c3⟩ := hc j hj
    exact ⟨(h.cell hb hs _).trans c0, (h.cell hb hs _).trans c1, (h.cell hb hs _).trans c2, (h.cell hb hs _).trans c3⟩
theorem Only.below {S : Nat → Prop} {W0 W : World} (h : Only S W0 W) {B : Nat} (hB : B ≤ W0.heap.size) (hS : ∀ b, S b → B ≤ b) : Below B W0 W :=
  ⟨h.os, h.tape, h.output, h.size, fun k hk => h.block k (by omega) (fun hs => by have := hS k hs; omega)⟩
theorem RowsP.other {W : World} {g g' : Nat} {L : List Pau} (h : RowsP W g' L) (hne : g' ≠ g) (o : Nat) (p : Pau) : RowsP (CD.set4 W g o p) g' L := by
  have hb : ∀ b o', b = g' → (CD.set4 W g o p).cell? ⟨b, o', none⟩ = W.cell? ⟨b, o', none⟩ := fun b o' e => by
    subst e
    refine World.cell?_of_block (w := W) ?_
    show (CD.set4 W g o p).heap[b]? = W.heap[b]?
    unfold CD.set4
    rw [Below.heap_setCell _ _ _ _ hne, Below.heap_setCell _ _ _ _ hne, Below.heap_setCell _ _ _ _ hne, Below.heap_setCell _ _ _ _ hne]
  refine ⟨fun k hk => ?_, fun i => by unfold CD.set4; simp only [World.frozen?_setCell]; exact h.free i, by unfold CD.set4; simpa using h.lt⟩
  obtain ⟨c0, c1, c2, c3⟩ := h.at_ k hk
  exact ⟨(hb _ _ rfl).trans c0, (hb _ _ rfl).trans c1, (hb _ _ rfl).trans c2, (hb _ _ rfl).trans c3⟩

/-- Three lists, written up to the i-th of the k-th. -/
structure Wr (W0 : World) (A m : Nat → Nat) (k i : Nat) (W : World) : Prop where
  only : Only (fun b => ∃ q, q < 3 ∧ b = A q) W0 W
  rows : ∃ L : Nat → List Pau, ∀ q, q < 3 → (L q).length = m q ∧ RowsP W (A q) (L q) ∧ ∀ (t : Nat) (ht : t < (L q).length), q < k ∨ (q = k ∧ t < i) → (L q)[t].n = 90 + q
theorem Wr.next {W0 W : World} {A m : Nat → Nat} {k : Nat} (h : Wr W0 A m k (m k) W) : Wr W0 A m (k + 1) 0 W := by
  obtain ⟨ho, L, hL⟩ := h
  refine ⟨ho, L, fun q hq => ⟨(hL q hq).1, (hL q hq).2.1, fun t ht h => (hL q hq).2.2 t ht ?_⟩⟩
  rcases h with h | h
  · by_cases e : q = k
    · subst e; exact .inr ⟨rfl, by rw [← (hL q hq).1]; exact ht⟩
    · exact .inl (by omega)
  · omega
theorem Wr.put {W0 W : World} {A m : Nat → Nat} (hA : ∀ q, q < 3 → ∀ r, r < 3 → A q = A r → q = r) {k i : Nat} (hk : k < 3) (hi : i < m k) (h : Wr W0 A m k i W) : Wr W0 A m k (i + 1) (set4 W (A k) (i * 4) ⟨90 + k, 0, 0, 0⟩) := by
  obtain ⟨ho, L, hL⟩ := h
  refine ⟨ho.set4 ⟨k, hk, rfl⟩ _ _, fun q => if q = k then (L k).set i ⟨90 + k, 0, 0, 0⟩ else L q, fun q hq => ?_⟩
  obtain ⟨h1, h2, h3⟩ := hL q hq
  by_cases e : q = k
  · subst e
    simp only [if_true, List.length_set]
    refine ⟨h1, h2.store (by omega) _, fun t ht hh => ?_⟩
    rw [List.getElem_set]
    split
    · rfl
    · exact h3 t ht (by omega)
  · simp only [if_neg e]
    exact ⟨h1, h2.other (fun e2 => e (hA q hq k hk e2)) _ _, fun t ht hh => h3 t ht (by omega)⟩
end Go.Proofs.Ytfnmembjgclhoaa.CD
