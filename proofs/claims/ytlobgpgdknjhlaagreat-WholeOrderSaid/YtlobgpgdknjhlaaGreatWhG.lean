/- The columns of the gates: closures, walked. -/
import Derived.Test.YtlobgpgdknjhlaaGreatWhF
import Derived.StillTailTactics
namespace Go.Proofs.YtlobgpgdknjhlaaGreat.WH
open Go Go.RowKit Go.Proofs.YtlobgpgdknjhlaaGreat.F
set_option linter.unusedVariables false
set_option linter.unusedSimpArgs false

/-- An entry of a column: its row, the power of w, whether the square root of 2 stands below. -/
structure Ce where
  row : Nat
  turn : Nat
  under : Nat
  deriving DecidableEq
def flat3 (l : List Ce) : List Value := l.flatMap fun c => [.int .i64 c.row, .int .i64 c.turn, .int .i64 c.under]
/-- A slice of entries in a block of its own. -/
def Ces (W : World) (l : List Ce) (x : Ending) (w' : World) : Prop :=
  ∃ B, x = .returned (.slice (some ⟨B, 0, none⟩) l.length l.length) ∧ w'.heap[B]? = some (.cells (flat3 l).toArray 145) ∧ Below W.heap.size W w' ∧ W.heap.size ≤ B
theorem Ces.new (W : World) (l : List Ce) (cs : Array Value) (h : cs = (flat3 l).toArray) {n : Nat} (hn : n = l.length) : Ces W l (.returned (.slice (some ⟨W.heap.size, 0, none⟩) n n)) (W.alloc (.cells cs 145)) := by
  subst h hn
  exact ⟨_, rfl, newB _ _ rfl, below1 _ _, Nat.le_refl _⟩
/-- All blocks but B are as they were. -/
structure But (B : Nat) (W W' : World) : Prop where
  os : W'.os = W.os
  tape : W'.tape = W.tape
  output : W'.output = W.output
  size : W.heap.size ≤ W'.heap.size
  block : ∀ k, k < W.heap.size → k ≠ B → W'.heap[k]? = W.heap[k]?
theorem But.of {B : Nat} {W W' : World} (h : Below W.heap.size W W') : But B W W' := ⟨h.os, h.tape, h.output, h.size, fun k hk _ => h.block k hk⟩
theorem But.trans {B : Nat} {a b c : World} (h : But B a b) (k : But B b c) : But B a c :=
  ⟨k.os.trans h.os, k.tape.trans h.tape, k.output.trans h.output, Nat.le_trans h.size k.size, fun i hi hne => (k.block i (Nat.lt_of_lt_of_le hi h.size) hne).trans (h.block i hi hne)⟩
theorem But.cell {B : Nat} {W W' : World} (h : But B W W') {b : Nat} (hb : b < W.heap.size) (hne : b ≠ B) (o : Nat) : W'.cell? ⟨b, o, none⟩ = W.cell? ⟨b, o, none⟩ := World.cell?_of_block (w := W) (h.block b hb hne)
theorem Ints.but {B : Nat} {w w' : World} {t c : Nat} {qs : List Nat} (h : Ints w (some ⟨t, 0, none⟩) c qs) (hb : But B w w') (hne : t ≠ B) : Ints w' (some ⟨t, 0, none⟩) c qs := by
  refine { h with at_ := ?_ }
  rcases h.at_ with e | ⟨b, off, e, hc⟩
  · exact .inl e
  · injection e with e
    injection e with e1 e2
    subst e1 e2
    exact .inr ⟨t, 0, rfl, fun j hj => (hb.cell (block_lt (hc j hj)) hne _).trans (hc j hj)⟩
/-- A function value that tells the columns, whatever becomes of the block B. -/
def Col (B : Nat) (W : World) (v : Value) (f : Nat → List Ce) : Prop :=
  ∃ fn cap, v = .func (.func fn) #[] cap ∧ (∀ args W', (callFunc fn args).run Tryz.prog W' = .ok (.enter fn args) W') ∧ ∀ W', But B W W' → ∀ y, y < 8 → Calls Tryz.prog fn (#[.int .i64 y] ++ cap) W' (Ces W' (f y))
theorem Col.but {B : Nat} {W W' : World} {v : Value} {f : Nat → List Ce} (h : Col B W v f) (hb : But B W W') : Col B W' v f := by
  obtain ⟨fn, cap, e, he, hc⟩ := h
  exact ⟨fn, cap, e, he, fun W2 h2 y hy => hc W2 (hb.trans h2) y hy⟩
def lastC (n t : Nat) (y : Nat) : List Ce := if y = n then [⟨y, t, 0⟩] else [⟨y, 0, 0⟩]
def mixedC (own other lst : Nat) (y : Nat) : List Ce := if y = 0 then [⟨0, own, 1⟩, ⟨1, other, 1⟩] else [⟨0, other, 1⟩, ⟨1, lst, 1⟩]
def swapC (a b t : Nat) (y : Nat) : List Ce := if y = a then [⟨b, t, 0⟩] else if y = b then [⟨a, t, 0⟩] else [⟨y, 0, 0⟩]
def cyC (y : Nat) : List Ce := if y = 1 then [⟨3, 2, 0⟩] else if y = 3 then [⟨1, 6, 0⟩] else [⟨y, 0, 0⟩]
def chC (y : Nat) : List Ce := if y = 1 then [⟨1, 0, 1⟩, ⟨3, 0, 1⟩] else if y = 3 then [⟨1, 0, 1⟩, ⟨3, 4, 1⟩] else [⟨y, 0, 0⟩]
theorem bd1 (a : Int) (w : World) : (Instr.build 145 #[(0, .int .i64 a)]).run Tryz.prog w = .ok (.agg #[.int .i64 a, .int .i64 0, .int .i64 0]) w := run_build w 145 _ _ (by kernel_rfl)
theorem bd2 (a b : Int) (w : World) : (Instr.build 145 #[(0, .int .i64 a), (1, .int .i64 b)]).run Tryz.prog w = .ok (.agg #[.int .i64 a, .int .i64 b, .int .i64 0]) w := run_build w 145 _ _ (by kernel_rfl)
theorem bd3 (a b c : Int) (w : World) : (Instr.build 145 #[(0, .int .i64 a), (1, .int .i64 b), (2, .int .i64 c)]).run Tryz.prog w = .ok (.agg #[.int .i64 a, .int .i64 b, .int .i64 c]) w := run_build w 145 _ _ (by kernel_rfl)

set_option maxRecDepth 100000 in
theorem last_col (n t y b1 b2 : Nat) (w : World) (c1 : w.cell? ⟨b1, 0, none⟩ = some (.int .i64 n)) (c2 : w.cell? ⟨b2, 0, none⟩ = some (.int .i64 t)) : Calls Tryz.prog 116 #[.int .i64 y, .pointer (some ⟨b1, 0, none⟩), .pointer (some ⟨b2, 0, none⟩)] w (Ces w (lastC n t y)) := by
  have h1 := bd1
  have h2 := bd2
  by_cases h : y = n
  · subst h
    have e : lastC y t y = [⟨y, t, 0⟩] := by simp [lastC]
    rw [e]
    go_enter Tryz.func116, Tryz.ntmps116
    go_wp2_with fail
    go_ret
    exact Ces.new w [⟨y, t, 0⟩] _ rfl rfl
  · have e : lastC n t y = [⟨y, 0, 0⟩] := by simp [lastC, h]
    have hf : ((y : Int) == (n : Int)) = false := by rw [beq_eq_false_iff_ne]; omega
    rw [e]
    go_enter Tryz.func116, Tryz.ntmps116
    go_wp2_with fail
    go_ret
    exact Ces.new w [⟨y, 0, 0⟩] _ rfl rfl
set_option maxRecDepth 100000 in
theorem last_makes (B n t : Nat) (w : World) (hB : B < w.heap.size) : Calls Tryz.prog 96 #[.int .i64 n, .int .i64 t] w fun e w' => ∃ v, e = .returned v ∧ Col B w' v (lastC n t) ∧ Below w.heap.size w w' := by
  have hmf : ∀ (a b : Value) (w : World), (Instr.makeFunc (.func 116) #[] #[a, b]).run Tryz.prog w = .ok (.func (.func 116) #[] #[a, b]) w := fun a b w => rfl
  go_enter Tryz.func96, Tryz.ntmps96
  go_wp2_with fail
  go_ret
  refine ⟨_, rfl, ⟨116, _, rfl, fun _ _ => by kernel_rfl, fun W' hb y hy => ?_⟩, (below1 _ _).trans ((below1 _ _).mono (by simp))⟩
  exact last_col n t y w.heap.size (w.heap.size + 1) W' ((hb.cell (b := w.heap.size) (by simp; omega) (by omega) 0).trans (by simp)) ((hb.cell (b := w.heap.size + 1) (by simp) (by omega) 0).trans (by simp))
set_option maxRecDepth 100000 in
theorem mixed_col (n t l y b1 b2 b3 : Nat) (w : World) (c1 : w.cell? ⟨b1, 0, none⟩ = some (.int .i64 n)) (c2 : w.cell? ⟨b2, 0, none⟩ = some (.int .i64 t)) (c3 : w.cell? ⟨b3, 0, none⟩ = some (.int .i64 l)) : Calls Tryz.prog 117 #[.int .i64 y, .pointer (some ⟨b1, 0, none⟩), .pointer (some ⟨b2, 0, none⟩), .pointer (some ⟨b3, 0, none⟩)] w (Ces w (mixedC n t l y)) := by
  have h1 := bd3
  by_cases h : y = 0
  · subst h
    have e : mixedC n t l 0 = [⟨0, n, 1⟩, ⟨1, t, 1⟩] := by simp [mixedC]
    rw [e]
    go_enter Tryz.func117, Tryz.ntmps117
    go_wp2_with fail
    go_ret
    exact Ces.new w [⟨0, n, 1⟩, ⟨1, t, 1⟩] _ rfl rfl
  · have e : mixedC n t l y = [⟨0, t, 1⟩, ⟨1, l, 1⟩] := by simp [mixedC, h]
    have hf : ((y : Int) == 0) = false := by rw [beq_eq_false_iff_ne]; omega
    rw [e]
    go_enter Tryz.func117, Tryz.ntmps117
    go_wp2_with fail
    go_ret
    exact Ces.new w [⟨0, t, 1⟩, ⟨1, l, 1⟩] _ rfl rfl
set_option maxRecDepth 100000 in
theorem swap_col (a b t y b1 b2 b3 : Nat) (w : World) (c1 : w.cell? ⟨b1, 0, none⟩ = some (.int .i64 a)) (c2 : w.cell? ⟨b2, 0, none⟩ = some (.int .i64 b)) (c3 : w.cell? ⟨b3, 0, none⟩ = some (.int .i64 t)) : Calls Tryz.prog 118 #[.int .i64 y, .pointer (some ⟨b1, 0, none⟩), .pointer (some ⟨b2, 0, none⟩), .pointer (some ⟨b3, 0, none⟩)] w (Ces w (swapC a b t y)) := by
  have h1 := bd1
  have h2 := bd2
  by_cases h : y = a
  · subst h
    have e : swapC y b t y = [⟨b, t, 0⟩] := by simp [swapC]
    rw [e]
    go_enter Tryz.func118, Tryz.ntmps118
    go_wp2_with fail
    go_ret
    exact Ces.new w [⟨b, t, 0⟩] _ rfl rfl
  · have hf : ((y : Int) == (a : Int)) = false := by rw [beq_eq_false_iff_ne]; omega
    by_cases h' : y = b
    · subst h'
      have e : swapC a y t y = [⟨a, t, 0⟩] := by simp [swapC, h]
      rw [e]
      clear h
      go_enter Tryz.func118, Tryz.ntmps118
      go_wp2_with fail
      go_ret
      exact Ces.new w [⟨a, t, 0⟩] _ rfl rfl
    · have e : swapC a b t y = [⟨y, 0, 0⟩] := by simp [swapC, h, h']
      have hf' : ((y : Int) == (b : Int)) = false := by rw [beq_eq_false_iff_ne]; omega
      rw [e]
      clear h h'
      go_enter Tryz.func118, Tryz.ntmps118
      go_wp2_with fail
      go_ret
      exact Ces.new w [⟨y, 0, 0⟩] _ rfl rfl
set_option maxRecDepth 100000 in
theorem cy_col (y : Nat) (w : World) : Calls Tryz.prog 99 #[.int .i64 y] w (Ces w (cyC y)) := by
  have h1 := bd1
  have h2 := bd2
  have h3 := bd3
  by_cases h : y = 1
  · subst h
    have e : cyC 1 = [⟨3, 2, 0⟩] := by simp [cyC]
    rw [e]
    go_enter Tryz.func99, Tryz.ntmps99
    go_wp2_with fail
    go_ret
    exact Ces.new w [⟨3, 2, 0⟩] _ rfl rfl
  · have hf : ((y : Int) == 1) = false := by rw [beq_eq_false_iff_ne]; omega
    by_cases h' : y = 3
    · subst h'
      have e : cyC 3 = [⟨1, 6, 0⟩] := by simp [cyC]
      rw [e]
      go_enter Tryz.func99, Tryz.ntmps99
      go_wp2_with fail
      go_ret
      exact Ces.new w [⟨1, 6, 0⟩] _ rfl rfl
    · have e : cyC y = [⟨y, 0, 0⟩] := by simp [cyC, h, h']
      have hf' : ((y : Int) == 3) = false := by rw [beq_eq_false_iff_ne]; omega
      rw [e]
      clear h h'
      go_enter Tryz.func99, Tryz.ntmps99
      go_wp2_with fail
      go_ret
      exact Ces.new w [⟨y, 0, 0⟩] _ rfl rfl
theorem cy_is (B : Nat) (W : World) : Col B W (.func (.func 99) #[] #[]) cyC := ⟨99, #[], rfl, fun _ _ => by kernel_rfl, fun W' hb y hy => cy_col y W'⟩
set_option maxRecDepth 100000 in
theorem ch_col (y : Nat) (w : World) : Calls Tryz.prog 100 #[.int .i64 y] w (Ces w (chC y)) := by
  have h1 := bd1
  have h2 := bd2
  have h3 := bd3
  by_cases h : y = 1
  · subst h
    have e : chC 1 = [⟨1, 0, 1⟩, ⟨3, 0, 1⟩] := by simp [chC]
    rw [e]
    go_enter Tryz.func100, Tryz.ntmps100
    go_wp2_with fail
    go_ret
    exact Ces.new w [⟨1, 0, 1⟩, ⟨3, 0, 1⟩] _ rfl rfl
  · have hf : ((y : Int) == 1) = false := by rw [beq_eq_false_iff_ne]; omega
    by_cases h' : y = 3
    · subst h'
      have e : chC 3 = [⟨1, 0, 1⟩, ⟨3, 4, 1⟩] := by simp [chC]
      rw [e]
      go_enter Tryz.func100, Tryz.ntmps100
      go_wp2_with fail
      go_ret
      exact Ces.new w [⟨1, 0, 1⟩, ⟨3, 4, 1⟩] _ rfl rfl
    · have e : chC y = [⟨y, 0, 0⟩] := by simp [chC, h, h']
      have hf' : ((y : Int) == 3) = false := by rw [beq_eq_false_iff_ne]; omega
      rw [e]
      clear h h'
      go_enter Tryz.func100, Tryz.ntmps100
      go_wp2_with fail
      go_ret
      exact Ces.new w [⟨y, 0, 0⟩] _ rfl rfl
theorem ch_is (B : Nat) (W : World) : Col B W (.func (.func 100) #[] #[]) chC := ⟨100, #[], rfl, fun _ _ => by kernel_rfl, fun W' hb y hy => ch_col y W'⟩
set_option maxRecDepth 100000 in
theorem mixed_makes (B a b c : Nat) (w : World) (hB : B < w.heap.size) : Calls Tryz.prog 97 #[.int .i64 a, .int .i64 b, .int .i64 c] w fun e w' => ∃ v, e = .returned v ∧ Col B w' v (mixedC a b c) ∧ Below w.heap.size w w' := by
  have hmf : ∀ (a b c : Value) (w : World), (Instr.makeFunc (.func 117) #[] #[a, b, c]).run Tryz.prog w = .ok (.func (.func 117) #[] #[a, b, c]) w := fun a b c w => rfl
  have HB := Lib.hid (((below1 w (.cells #[.int .i64 a] 3)).trans ((below1 _ (.cells #[.int .i64 b] 3)).mono (by simp))).trans ((below1 _ (.cells #[.int .i64 c] 3)).mono (by simp; omega)))
  have k0 : ((((w.alloc (.cells #[.int .i64 a] 3)).alloc (.cells #[.int .i64 b] 3)).alloc (.cells #[.int .i64 c] 3))).cell? ⟨w.heap.size, 0, none⟩ = some (.int .i64 a) := (((below1 _ _).cell (p := ⟨w.heap.size, 0, none⟩) (by simp; omega)).trans ((below1 _ _).cell (p := ⟨w.heap.size, 0, none⟩) (by simp))).trans (cell_at (newB _ _ rfl) rfl)
  have k1 : ((((w.alloc (.cells #[.int .i64 a] 3)).alloc (.cells #[.int .i64 b] 3)).alloc (.cells #[.int .i64 c] 3))).cell? ⟨w.heap.size + 1, 0, none⟩ = some (.int .i64 b) := ((below1 _ _).cell (p := ⟨w.heap.size + 1, 0, none⟩) (by simp)).trans (cell_at (newB _ _ (by simp)) rfl)
  have k2 : ((((w.alloc (.cells #[.int .i64 a] 3)).alloc (.cells #[.int .i64 b] 3)).alloc (.cells #[.int .i64 c] 3))).cell? ⟨w.heap.size + 1 + 1, 0, none⟩ = some (.int .i64 c) := cell_at (newB _ _ (by simp)) rfl
  have HS : ((((w.alloc (.cells #[.int .i64 a] 3)).alloc (.cells #[.int .i64 b] 3)).alloc (.cells #[.int .i64 c] 3))).heap.size = w.heap.size + 1 + 1 + 1 := by simp
  have HK := Lib.hid (And.intro k0 (And.intro k1 (And.intro k2 HS)))
  clear k0 k1 k2 HS
  go_enter Tryz.func97, Tryz.ntmps97
  go_wp2_with fail
  go_ret
  obtain ⟨k0, k1, k2, HS⟩ := HK.out
  refine ⟨_, rfl, ⟨117, _, rfl, fun _ _ => by kernel_rfl, fun W' hb y hy => ?_⟩, HB.out⟩
  exact mixed_col a b c y w.heap.size (w.heap.size + 1) (w.heap.size + 1 + 1) W' ((hb.cell (b := w.heap.size) (by rw [HS]; show w.heap.size < _; omega) (by omega) 0).trans k0) ((hb.cell (b := w.heap.size + 1) (by rw [HS]; show w.heap.size + 1 < _; omega) (by omega) 0).trans k1) ((hb.cell (b := w.heap.size + 1 + 1) (by rw [HS]; show w.heap.size + 1 + 1 < _; omega) (by omega) 0).trans k2)
set_option maxRecDepth 100000 in
theorem swap_makes (B a b c : Nat) (w : World) (hB : B < w.heap.size) : Calls Tryz.prog 98 #[.int .i64 a, .int .i64 b, .int .i64 c] w fun e w' => ∃ v, e = .returned v ∧ Col B w' v (swapC a b c) ∧ Below w.heap.size w w' := by
  have hmf : ∀ (a b c : Value) (w : World), (Instr.makeFunc (.func 118) #[] #[a, b, c]).run Tryz.prog w = .ok (.func (.func 118) #[] #[a, b, c]) w := fun a b c w => rfl
  have HB := Lib.hid (((below1 w (.cells #[.int .i64 a] 3)).trans ((below1 _ (.cells #[.int .i64 b] 3)).mono (by simp))).trans ((below1 _ (.cells #[.int .i64 c] 3)).mono (by simp; omega)))
  have k0 : ((((w.alloc (.cells #[.int .i64 a] 3)).alloc (.cells #[.int .i64 b] 3)).alloc (.cells #[.int .i64 c] 3))).cell? ⟨w.heap.size, 0, none⟩ = some (.int .i64 a) := (((below1 _ _).cell (p := ⟨w.heap.size, 0, none⟩) (by simp; omega)).trans ((below1 _ _).cell (p := ⟨w.heap.size, 0, none⟩) (by simp))).trans (cell_at (newB _ _ rfl) rfl)
  have k1 : ((((w.alloc (.cells #[.int .i64 a] 3)).alloc (.cells #[.int .i64 b] 3)).alloc (.cells #[.int .i64 c] 3))).cell? ⟨w.heap.size + 1, 0, none⟩ = some (.int .i64 b) := ((below1 _ _).cell (p := ⟨w.heap.size + 1, 0, none⟩) (by simp)).trans (cell_at (newB _ _ (by simp)) rfl)
  have k2 : ((((w.alloc (.cells #[.int .i64 a] 3)).alloc (.cells #[.int .i64 b] 3)).alloc (.cells #[.int .i64 c] 3))).cell? ⟨w.heap.size + 1 + 1, 0, none⟩ = some (.int .i64 c) := cell_at (newB _ _ (by simp)) rfl
  have HS : ((((w.alloc (.cells #[.int .i64 a] 3)).alloc (.cells #[.int .i64 b] 3)).alloc (.cells #[.int .i64 c] 3))).heap.size = w.heap.size + 1 + 1 + 1 := by simp
  have HK := Lib.hid (And.intro k0 (And.intro k1 (And.intro k2 HS)))
  clear k0 k1 k2 HS
  go_enter Tryz.func98, Tryz.ntmps98
  go_wp2_with fail
  go_ret
  obtain ⟨k0, k1, k2, HS⟩ := HK.out
  refine ⟨_, rfl, ⟨118, _, rfl, fun _ _ => by kernel_rfl, fun W' hb y hy => ?_⟩, HB.out⟩
  exact swap_col a b c y w.heap.size (w.heap.size + 1) (w.heap.size + 1 + 1) W' ((hb.cell (b := w.heap.size) (by rw [HS]; show w.heap.size < _; omega) (by omega) 0).trans k0) ((hb.cell (b := w.heap.size + 1) (by rw [HS]; show w.heap.size + 1 < _; omega) (by omega) 0).trans k1) ((hb.cell (b := w.heap.size + 1 + 1) (by rw [HS]; show w.heap.size + 1 + 1 < _; omega) (by omega) 0).trans k2)
theorem xor_small {y b : Nat} (hy : y < 8) (hb : b < 2) : Go.bits .xor .i64 (y : Int) (b : Int) = ((y ^^^ b : Nat) : Int) := by
  have h : ∀ (y : Fin 8) (b : Fin 2), Go.bits .xor .i64 ((y.val : Nat) : Int) ((b.val : Nat) : Int) = ((y.val ^^^ b.val : Nat) : Int) := by decide +kernel
  exact h ⟨y, hy⟩ ⟨b, hb⟩
theorem Ces.drew {W w' : World} {l : List Ce} {x : Ending} (h : Ces W.drew l x w') : Ces W l x w' := by
  obtain ⟨B, h1, h2, h3, h4⟩ := h
  exact ⟨B, h1, h2, (Below.refl _ W).drew.trans h3, h4⟩
def flipC (b : Nat) (ts : List Nat) (y : Nat) : List Ce := [⟨y ^^^ b, ts[y % ts.length]?.getD 0, 0⟩]
set_option maxRecDepth 100000 in
theorem flip_col (b y b1 b2 : Nat) (ts : List Nat) (T : Option Addr) (c : Nat) (w : World) (hy : y < 8) (hb : b < 2) (ht : 0 < ts.length) (hI : Ints w T c ts) (c1 : w.cell? ⟨b1, 0, none⟩ = some (.int .i64 b)) (c2 : w.cell? ⟨b2, 0, none⟩ = some (.slice T ts.length c)) : Calls Tryz.prog 115 #[.int .i64 y, .pointer (some ⟨b1, 0, none⟩), .pointer (some ⟨b2, 0, none⟩)] w (Ces w (flipC b ts y)) := by
  have h2 := bd2
  have mixed : Tryz.prog.follows Departure.mixedOrders = true := by kernel_rfl
  have hx := xor_small hy hb
  have hlt : y % ts.length < ts.length := Nat.mod_lt _ ht
  obtain ⟨bb, o, hbl, hidx, hc⟩ := hI.at (y % ts.length) hlt
  have e : flipC b ts y = [⟨y ^^^ b, ts[y % ts.length], 0⟩] := by simp [flipC, hlt]
  rw [e]
  have hm : ((y : Int).tmod (ts.length : Int)) = ((y % ts.length : Nat) : Int) := by
    rw [Int.tmod_eq_emod_of_nonneg (by omega)]
    push_cast
    rfl
  have hne : ¬ ((ts.length : Int) = 0) := by omega
  have hne1 : (ts.length : Int) ≠ -1 := by omega
  have hy8 : (y : Int) < 8 := by omega
  have hl9 : (ts.length : Int) ≤ 9223372036854775807 := by have := hI.len; have := hI.cap; omega
  clear hI e hb
  generalize ts[y % ts.length] = t at *
  generalize y ^^^ b = z at *
  have hl0 : (0 : Int) < ts.length := by omega
  have hlt' : ((y % ts.length : Nat) : Int) < ts.length := by exact_mod_cast hlt
  clear hlt
  generalize ts.length = L at *
  have hL0 : ¬ L = 0 := by omega
  push_cast at hidx hlt' hm
  go_enter Tryz.func115, Tryz.ntmps115
  go_wp2_with fail
  go_still_tail 11, (by kernel_rfl)
  go_wp2_with fail
  go_ret
  exact (Ces.new w.drew [⟨z, t, 0⟩] _ rfl rfl).drew
set_option maxRecDepth 100000 in
theorem flip_makes (B b : Nat) (ts : List Nat) (T : Nat) (c : Nat) (w : World) (hB : B < w.heap.size) (hT : T ≠ B) (hb : b < 2) (ht : 0 < ts.length) (hI : Ints w (some ⟨T, 0, none⟩) c ts) : Calls Tryz.prog 95 #[.int .i64 b, .slice (some ⟨T, 0, none⟩) ts.length c] w fun e w' => ∃ v, e = .returned v ∧ Col B w' v (flipC b ts) ∧ Below w.heap.size w w' := by
  have hmf : ∀ (a b : Value) (w : World), (Instr.makeFunc (.func 115) #[] #[a, b]).run Tryz.prog w = .ok (.func (.func 115) #[] #[a, b]) w := fun a b w => rfl
  have HI := Lib.hid hI
  have HB := Lib.hid ((below1 w (.cells #[.int .i64 b] 3)).trans ((below1 _ (.cells #[.slice (some ⟨T, 0, none⟩) ts.length c] 22)).mono (by simp)))
  have k0 : ((w.alloc (.cells #[.int .i64 b] 3)).alloc (.cells #[.slice (some ⟨T, 0, none⟩) ts.length c] 22)).cell? ⟨w.heap.size, 0, none⟩ = some (.int .i64 b) := ((below1 _ _).cell (p := ⟨w.heap.size, 0, none⟩) (by simp)).trans (cell_at (newB _ _ rfl) rfl)
  have k1 : ((w.alloc (.cells #[.int .i64 b] 3)).alloc (.cells #[.slice (some ⟨T, 0, none⟩) ts.length c] 22)).cell? ⟨w.heap.size + 1, 0, none⟩ = some (.slice (some ⟨T, 0, none⟩) ts.length c) := cell_at (newB _ _ (by simp)) rfl
  have HS : ((w.alloc (.cells #[.int .i64 b] 3)).alloc (.cells #[.slice (some ⟨T, 0, none⟩) ts.length c] 22)).heap.size = w.heap.size + 1 + 1 := by simp
  have HK := Lib.hid (And.intro k0 (And.intro k1 HS))
  clear k0 k1 HS hI
  go_enter Tryz.func95, Tryz.ntmps95
  go_wp2_with fail
  go_ret
  obtain ⟨k0, k1, HS⟩ := HK.out
  refine ⟨_, rfl, ⟨115, _, rfl, fun _ _ => by kernel_rfl, fun W' hb' y hy => ?_⟩, HB.out⟩
  exact flip_col b y w.heap.size (w.heap.size + 1) ts (some ⟨T, 0, none⟩) c W' hy hb ht (HI.out.but ((But.of HB.out).trans hb') hT) ((hb'.cell (b := w.heap.size) (by rw [HS]; show w.heap.size < _; omega) (by omega) 0).trans k0) ((hb'.cell (b := w.heap.size + 1) (by rw [HS]; show w.heap.size + 1 < _; omega) (by omega) 0).trans k1)
end Go.Proofs.YtlobgpgdknjhlaaGreat.WH
