/- States in the heap; dense.Basis, Zero: walked. -/
import Derived.Test.YtlobgpgdknjhlaaGreatWhN
import Derived.BigQuiet
namespace Go.Proofs.YtlobgpgdknjhlaaGreat.WH
open Go Go.RowKit Go.Proofs.YtlobgpgdknjhlaaGreat.F
set_option linter.unusedVariables false
set_option linter.unusedSimpArgs false
attribute [local go_sem] run_store_complex run_store_func
def two (r : Rg) : List Value := [.complex .f64 (Fl r.a) (Fl r.b), .complex .f64 (Fl r.c) (Fl r.d)]
def flat2 (rs : List Rg) : List Value := rs.flatMap two
/-- The elements, in a block of their own. -/
def OwnR (W : World) (b : Nat) (rs : List Rg) : Prop := W.heap[b]? = some (.cells (flat2 rs).toArray 65)
theorem flat2_at : ∀ (l : List Rg) (j : Nat) (hj : j < l.length), (flat2 l)[j * 2]? = some (.complex .f64 (Fl l[j].a) (Fl l[j].b)) ∧ (flat2 l)[j * 2 + 1]? = some (.complex .f64 (Fl l[j].c) (Fl l[j].d))
  | c :: l, 0, _ => ⟨rfl, rfl⟩
  | c :: l, j + 1, hj => by
    have h := flat2_at l j (by simpa using hj)
    simp only [flat2, List.flatMap_cons, List.getElem_cons_succ] at h ⊢
    have hl : (two c).length = 2 := rfl
    have e : (j + 1) * 2 = 2 + j * 2 := by omega
    rw [e, Nat.add_assoc 2]
    refine ⟨?_, ?_⟩ <;> rw [List.getElem?_append_right (by rw [hl]; omega), hl] <;> simp only [Nat.add_sub_cancel_left]
    · exact h.1
    · exact h.2
theorem flat2_len : ∀ l : List Rg, (flat2 l).length = l.length * 2
  | [] => rfl
  | c :: l => by
    have h := flat2_len l
    simp only [flat2, List.flatMap_cons, List.length_append, two, List.length_cons, List.length_nil] at h ⊢
    omega
theorem flat2_set : ∀ (l : List Rg) (j : Nat) (hj : j < l.length) (r : Rg), ((flat2 l).set (j * 2) (.complex .f64 (Fl r.a) (Fl r.b))).set (j * 2 + 1) (.complex .f64 (Fl r.c) (Fl r.d)) = flat2 (l.set j r)
  | c :: l, 0, _, r => rfl
  | c :: l, j + 1, hj, r => by
    have h := flat2_set l j (by simpa using hj) r
    have e : (j + 1) * 2 = j * 2 + 1 + 1 := by omega
    have e2 : flat2 (c :: l) = .complex .f64 (Fl c.a) (Fl c.b) :: .complex .f64 (Fl c.c) (Fl c.d) :: flat2 l := rfl
    have e3 : flat2 ((c :: l).set (j + 1) r) = .complex .f64 (Fl c.a) (Fl c.b) :: .complex .f64 (Fl c.c) (Fl c.d) :: flat2 (l.set j r) := rfl
    rw [e, e2, e3]
    simp only [List.set_cons_succ]
    rw [h]
theorem OwnR.rings {W : World} {b : Nat} {rs : List Rg} (h : OwnR W b rs) (hp : ∀ r ∈ rs, r.Pt) (hl : rs.length ≤ 9223372036854775807) : Rings W (some ⟨b, 0, none⟩) rs.length rs :=
  ⟨Nat.le_refl _, hl, hp, .inr ⟨b, 0, rfl, fun j hj => by
    have hf := flat2_at rs j hj
    rw [Nat.zero_add]
    exact ⟨cell_at h (by rw [List.getElem?_toArray]; exact hf.1), cell_at h (by rw [List.getElem?_toArray]; exact hf.2)⟩⟩⟩
theorem OwnR.cells {W : World} {b : Nat} {rs : List Rg} (h : OwnR W b rs) (j : Nat) (hj : j < rs.length) : Cell2 W b (j * 2) rs[j] :=
  ⟨cell_at h (by rw [List.getElem?_toArray]; exact (flat2_at rs j hj).1), cell_at h (by rw [List.getElem?_toArray]; exact (flat2_at rs j hj).2)⟩
theorem OwnR.below {W W' : World} {b : Nat} {rs : List Rg} (h : OwnR W b rs) (hb : Below W.heap.size W W') : OwnR W' b rs := Below.heap_some hb h
theorem setCell_block {W : World} {b i : Nat} {cs : Array Value} {t : TypeId} (h : W.heap[b]? = some (.cells cs t)) (v : Value) : (W.setCell ⟨b, i, none⟩ v).heap[b]? = some (.cells (cs.setIfInBounds i v) t) := by
  simp [World.setCell, Array.getElem?_modify, h]
theorem OwnR.put {W : World} {b : Nat} {rs : List Rg} (h : OwnR W b rs) (j : Nat) (hj : j < rs.length) (r : Rg) : OwnR ((W.setCell ⟨b, j * 2, none⟩ (.complex .f64 (Fl r.a) (Fl r.b))).setCell ⟨b, j * 2 + 1, none⟩ (.complex .f64 (Fl r.c) (Fl r.d))) b (rs.set j r) := by
  have h1 := setCell_block (i := j * 2) h (.complex .f64 (Fl r.a) (Fl r.b))
  have h2 := setCell_block (i := j * 2 + 1) h1 (.complex .f64 (Fl r.c) (Fl r.d))
  unfold OwnR
  rw [h2, List.setIfInBounds_toArray, List.setIfInBounds_toArray, flat2_set rs j hj r]
theorem setCell_far {W : World} {b i k : Nat} {v : Value} (h : k ≠ b) : (W.setCell ⟨b, i, none⟩ v).heap[k]? = W.heap[k]? := by
  simp [World.setCell, Array.getElem?_modify, Ne.symm h]
theorem OwnR.far {W : World} {b B i : Nat} {v : Value} {rs : List Rg} (h : OwnR W B rs) (hne : B ≠ b) : OwnR (W.setCell ⟨b, i, none⟩ v) B rs := (setCell_far hne).trans h
theorem put3 {n : Nat} {w W : World} (h : Below n w W) {b : Nat} (hb : n ≤ b) (v0 v1 v2 : Value) : Below n w (((W.setCell ⟨b, 0, none⟩ v0).setCell ⟨b, 1, none⟩ v1).setCell ⟨b, 2, none⟩ v2) :=
  ((h.setCell (p := ⟨b, 0, none⟩) hb v0).setCell (p := ⟨b, 1, none⟩) hb v1).setCell (p := ⟨b, 2, none⟩) hb v2
def nilR : Rg := ⟨0, 0, 0, 0⟩
theorem nilR_pt : nilR.Pt := ⟨by unfold Pt nilR; decide, by unfold Pt nilR; decide, by unfold Pt nilR; decide, by unfold Pt nilR; decide⟩
theorem flat2_nil (n : Nat) : flat2 (List.replicate n nilR) = List.replicate (n * 2) (.complex .f64 0 0) := by
  induction n with
  | zero => rfl
  | succ n ih =>
    have e : (n + 1) * 2 = n * 2 + 1 + 1 := by omega
    rw [e, List.replicate_succ, List.replicate_succ, List.replicate_succ, ← ih]
    rfl
set_option maxRecDepth 100000 in
theorem make_rings (n : Nat) (hn : n ≤ 1024) (w : World) : (Instr.makeSlice 35 (.int .i64 (n : Int)) (.int .i64 (n : Int))).run Tryz.prog w = .ok (.slice (some ⟨w.heap.size, 0, none⟩) n n) (w.alloc (.cells (flat2 (List.replicate n nilR)).toArray 65)) := by
  obtain ⟨i, hi, hz0, hz1, hz2⟩ : ∃ i, Tryz.prog.info? 65 = some i ∧ i.zero = some (.agg #[.complex .f64 0 0, .complex .f64 0 0]) ∧ i.size = 2 ∧ i.bytes = 32 := ⟨_, rfl, rfl, rfl, rfl⟩
  have h := run_makeSlice (P := Tryz.prog) w 35 65 i _ Tryz.underlying35 hi hz0 .i64 .i64 n n (by omega) (Int.le_refl _) (by rw [hz1]; omega) (by rw [hz2]; omega) (by omega)
  rw [hz1] at h
  simp only [Int.toNat_natCast] at h
  rw [h, flat2_nil]
  have e : madeCells (Value.agg #[.complex .f64 0 0, .complex .f64 0 0]).cells (n * 2) = (List.replicate (n * 2) (Value.complex .f64 0 0)).toArray := by
    refine Array.ext (by simp [madeCells]) fun j h1 h2 => ?_
    have h3 := Nat.mod_lt j (show 2 > 0 by decide)
    simp [madeCells, Value.cells]
    rcases Nat.lt_or_ge (j % 2) 1 with h4 | h4
    · have h5 : j % 2 = 0 := by omega
      simp [h5]
    · have h5 : j % 2 = 1 := by omega
      simp [h5]
  rw [e]
theorem flat2_setA : ∀ (l : List Rg) (j : Nat) (hj : j < l.length) (r : Rg), r.c = l[j].c → r.d = l[j].d → (flat2 l).set (j * 2) (.complex .f64 (Fl r.a) (Fl r.b)) = flat2 (l.set j r)
  | c :: l, 0, _, r, h1, h2 => by
    simp only [List.getElem_cons_zero] at h1 h2
    show Value.complex .f64 (Fl r.a) (Fl r.b) :: .complex .f64 (Fl c.c) (Fl c.d) :: flat2 l = .complex .f64 (Fl r.a) (Fl r.b) :: .complex .f64 (Fl r.c) (Fl r.d) :: flat2 l
    rw [h1, h2]
  | c :: l, j + 1, hj, r, h1, h2 => by
    have h := flat2_setA l j (by simpa using hj) r h1 h2
    have e : (j + 1) * 2 = j * 2 + 1 + 1 := by omega
    have e2 : flat2 (c :: l) = .complex .f64 (Fl c.a) (Fl c.b) :: .complex .f64 (Fl c.c) (Fl c.d) :: flat2 l := rfl
    have e3 : flat2 ((c :: l).set (j + 1) r) = .complex .f64 (Fl c.a) (Fl c.b) :: .complex .f64 (Fl c.c) (Fl c.d) :: flat2 (l.set j r) := rfl
    rw [e, e2, e3]
    simp only [List.set_cons_succ]
    rw [h]
theorem OwnR.putA {W : World} {b : Nat} {rs : List Rg} (h : OwnR W b rs) (j : Nat) (hj : j < rs.length) (r : Rg) (h1 : r.c = rs[j].c) (h2 : r.d = rs[j].d) : OwnR (W.setCell ⟨b, j * 2, none⟩ (.complex .f64 (Fl r.a) (Fl r.b))) b (rs.set j r) := by
  have h3 := setCell_block (i := j * 2) h (.complex .f64 (Fl r.a) (Fl r.b))
  unfold OwnR
  rw [h3, List.setIfInBounds_toArray, flat2_setA rs j hj r h1 h2]
theorem idx35 (k : IntKind) (b n c x : Nat) (hx : x < n) (W : World) : (Instr.indexAt 35 (Value.slice (some ⟨b, 0, none⟩) n c) (.int k x)).run Tryz.prog W = .ok (.pointer (some ⟨b, x * 2, none⟩)) W := by
  have hs : ∀ W, (Go.sizeOf (Tryz.prog.elem 35)).run Tryz.prog W = .ok 2 W := fun _ => by kernel_rfl
  rw [run_indexAt_slice _ 35 _ _ _ _ _ (by kernel_rfl), if_pos ⟨by omega, by exact_mod_cast hx⟩, hs]
  simp [Result.andThen, Addr.add]
  try omega
def basisR (n x : Nat) : List Rg := (List.replicate (2 ^ n) nilR).set x oneR
theorem pow_sh {n : Nat} (hn : n ≤ 10) : wrap64 (2 ^ min n 64) = (((2 ^ n : Nat) : Int)) := by
  have h : n = 0 ∨ n = 1 ∨ n = 2 ∨ n = 3 ∨ n = 4 ∨ n = 5 ∨ n = 6 ∨ n = 7 ∨ n = 8 ∨ n = 9 ∨ n = 10 := by omega
  rcases h with rfl | rfl | rfl | rfl | rfl | rfl | rfl | rfl | rfl | rfl | rfl <;> decide +kernel
theorem pow_sh2 {n : Nat} (hn : n ≤ 10) : wrap64 (2 ^ n) = (((2 ^ n : Nat) : Int)) := by
  have h := pow_sh hn
  rwa [Nat.min_eq_left (by omega)] at h
theorem pow_le {n : Nat} (hn : n ≤ 10) : 2 ^ n ≤ 1024 := Nat.pow_le_pow_right (n := 2) (by decide) hn
theorem bd37 (a : Int) (v : Option Addr) (l c : Nat) (w : World) : (Instr.build 37 #[(0, .int .i64 a), (2, .slice v l c)]).run Tryz.prog w = .ok (.agg #[.int .i64 a, .int .i64 0, .slice v l c]) w := run_build w 37 _ _ (by kernel_rfl)
set_option maxRecDepth 100000 in
set_option maxHeartbeats 2000000 in
theorem basis_calls (n x : Nat) (hn : n ≤ 10) (hx : x < 2 ^ n) (w : World) : Calls Tryz.prog 14 #[.int .i64 n, .int .u64 x] w fun e w' => ∃ B, e = .returned (.tuple #[.agg #[.int .i64 n, .int .i64 0, .slice (some ⟨B, 0, none⟩) (2 ^ n) (2 ^ n)], .int .i64 0]) ∧ OwnR w' B (basisR n x) ∧ w.heap.size ≤ B ∧ Below w.heap.size w w' := by
  have hsh := pow_sh2 hn
  have hmk := make_rings (2 ^ n) (pow_le hn)
  have hix := fun W => idx35 .u64 (w.heap.size + 1) (2 ^ n) (2 ^ n) x hx W
  have hb := bd37
  have hdiv : ((x : Int) / 2 ^ n) = 0 := by
    rw [show ((2 : Int) ^ n) = ((2 ^ n : Nat) : Int) by push_cast; rfl, ← Int.natCast_ediv, Nat.div_eq_of_lt hx]; rfl
  have hn0 : decide ((n : Int) < 0) = false := decide_eq_false (by omega)
  have hn1 : decide ((10 : Int) < (n : Int)) = false := decide_eq_false (by omega)
  have hfl : (flat2 (List.replicate (2 ^ n) nilR))[x * 2]? = some (.complex .f64 0 0) := by
    have h := (flat2_at (List.replicate (2 ^ n) nilR) x (by simpa using hx)).1
    rw [List.getElem_replicate] at h
    exact h
  have HO : Hid (OwnR (w.alloc (.cells (flat2 (List.replicate (2 ^ n) nilR)).toArray 65)) w.heap.size (List.replicate (2 ^ n) nilR)) := Lib.hid (newB _ _ rfl)
  generalize hN : 2 ^ n = N at *
  have HF : Hid ((flat2 (List.replicate N nilR)).set (x * 2) (Value.complex .f64 4607182418800017408 0) = flat2 (basisR n x)) := Lib.hid (by
    have h := flat2_setA (List.replicate N nilR) x (by simpa using hx) oneR (by simp [nilR, oneR]) (by simp [nilR, oneR])
    have e1 : Fl oneR.a = 4607182418800017408 := fl_one
    have e2 : Fl oneR.b = 0 := fl_zero
    rw [e1, e2] at h
    unfold basisR
    rw [hN, h])
  clear HO
  go_enter Tryz.func14, Tryz.ntmps14
  go_wp2_with fail
  refine bodyPost_ret (v := .tuple #[.agg #[.int .i64 n, .int .i64 0, .slice (some ⟨w.heap.size + 1, 0, none⟩) N N], .int .i64 0]) (by simp [results, Tryz.results14, go_sem, *]) rfl ⟨w.heap.size + 1, rfl, ?_, by omega, ?_⟩
  · rw [HF.out]
    exact Below.heap_some (below1 _ _) (newB _ _ (by simp))
  · exact ((below1 w _).trans ((below1 _ _).mono (by simp))).trans ((below1 _ _).mono (by simp; omega))
set_option maxRecDepth 100000 in
theorem zero_calls (n : Nat) (hn : n ≤ 10) (w : World) : Calls Tryz.prog 21 #[.int .i64 n] w fun e w' => ∃ B, e = .returned (.tuple #[.agg #[.int .i64 n, .int .i64 0, .slice (some ⟨B, 0, none⟩) (2 ^ n) (2 ^ n)], .int .i64 0]) ∧ OwnR w' B (basisR n 0) ∧ w.heap.size ≤ B ∧ Below w.heap.size w w' := by
  have g := basis_calls n 0 hn (Nat.two_pow_pos n)
  generalize hN : 2 ^ n = N at *
  go_enter Tryz.func21, Tryz.ntmps21
  go_wp2_with fail
  go_at_call 14
  refine (g _).mono ?_
  rintro x w1 ⟨B, rfl, ho, hlo, hb⟩
  have HO := Lib.hid ho
  have HB := Lib.hid hb
  have hl : w.heap.size < w1.heap.size := Nat.lt_of_lt_of_le (by simp) hb.size
  have hlo' : w.heap.size + 1 ≤ B := by simpa using hlo
  have c0 : w1.cell? ⟨w.heap.size, 0, none⟩ = some (.int .i64 0) := (hb.cell (p := ⟨w.heap.size, 0, none⟩) (by simp)).trans (cell_at (newB _ _ rfl) rfl)
  have c1 : w1.cell? ⟨w.heap.size, 1, none⟩ = some (.int .i64 0) := (hb.cell (p := ⟨w.heap.size, 1, none⟩) (by simp)).trans (cell_at (newB _ _ rfl) rfl)
  have c2 : w1.cell? ⟨w.heap.size, 2, none⟩ = some (.slice none 0 0) := (hb.cell (p := ⟨w.heap.size, 2, none⟩) (by simp)).trans (cell_at (newB _ _ rfl) rfl)
  have f0 : ∀ i, w1.frozen? ⟨w.heap.size, i, none⟩ = false := fun i => (hb.frozen (p := ⟨w.heap.size, i, none⟩) (by simp)).trans (free_at (newB _ _ rfl))
  clear ho hb hlo
  go_wp2_with fail
  refine bodyPost_ret (v := .tuple #[.agg #[.int .i64 n, .int .i64 0, .slice (some ⟨B, 0, none⟩) N N], .int .i64 0]) (by simp [results, Tryz.results21, go_sem, *]) rfl ⟨B, rfl, ?_, by omega, ?_⟩
  · exact ((HO.out.far (by omega)).far (by omega)).far (by omega)
  · exact put3 ((below1 w _).trans (HB.out.mono (by simp))) (Nat.le_refl _) _ _ _
/-- The first block of the call's own, untouched. -/
structure BoxSt (w : World) (cs : Array Value) (t : TypeId) (W : World) : Prop where
  below : Below w.heap.size w W
  blk : W.heap[w.heap.size]? = some (.cells cs t)
theorem BoxSt.start (w : World) (cs : Array Value) (t : TypeId) : BoxSt w cs t (w.alloc (.cells cs t)) := ⟨below1 _ _, newB _ _ rfl⟩
theorem BoxSt.next {w W W' : World} {cs : Array Value} {t : TypeId} (h : BoxSt w cs t W) (hb : Below W.heap.size W W') : BoxSt w cs t W' := ⟨h.below.trans (hb.mono h.below.size), Below.heap_some hb h.blk⟩
/-- What a state is, in its one form. -/
structure Formd (n k : Nat) (rs : List Rg) : Prop where
  n10 : n ≤ 10
  k60 : k ≤ 60
  len : rs.length = 2 ^ n
  pt : ∀ r ∈ rs, r.Pt
  one : k = 0 ∨ ∃ r ∈ rs, evn r = false
set_option maxRecDepth 100000 in
set_option maxHeartbeats 2000000 in
theorem check_calls (n k : Nat) (a : Option Addr) (c : Nat) (rs : List Rg) (w : World) (hf : Formd n k rs) (h : Rings w a c rs) : Calls Tryz.prog 36 #[.agg #[.int .i64 n, .int .i64 k, .slice a rs.length c]] w fun e w' => e = .returned (.int .i64 0) ∧ Below w.heap.size w w' := by
  have HI := Lib.hid h
  have HF := Lib.hid hf
  have hn0 : decide ((n : Int) < 0) = false := decide_eq_false (by omega)
  have hn1 : decide ((10 : Int) < (n : Int)) = false := decide_eq_false (by have := hf.n10; omega)
  have hk0 : decide ((k : Int) < 0) = false := decide_eq_false (by omega)
  have hk1 : decide ((60 : Int) < (k : Int)) = false := decide_eq_false (by have := hf.k60; omega)
  have hsh := pow_sh2 hf.n10
  have hsh' := pow_sh hf.n10
  rw [← hf.len] at hsh hsh'
  have hlc : (rs.length : Int) ≤ 9223372036854775807 := by have := h.len; have := h.cap; omega
  have hn10 := hf.n10
  clear h hf
  go_enter Tryz.func36, Tryz.ntmps36
  go_wp2_with fail
  go_quiet (fail)
  clear hsh hsh'
  have HS : Hid (BoxSt w #[.int .i64 n, .int .i64 k, .slice a rs.length c] 37 ((w.alloc (.cells #[.int .i64 n, .int .i64 k, .slice a rs.length c] 37)).drewN nq)) := Lib.hid ((BoxSt.start w _ _).next (belowD (Below.refl _ _) nq))
  generalize (w.alloc (.cells #[.int .i64 n, .int .i64 k, .slice a rs.length c] 37)).drewN nq = W1 at *
  have c0 := cell_at (i := 0) HS.out.blk rfl
  have c1 := cell_at (i := 1) HS.out.blk rfl
  have c2 := cell_at (i := 2) HS.out.blk rfl
  go_wp2_with fail
  go_loopw [4, 5, 36] (fun _ _ k' W => ∃ j : Nat, j ≤ rs.length ∧ k' = .int .i64 j ∧ BoxSt w #[.int .i64 n, .int .i64 k, .slice a rs.length c] 37 W) (fun _ _ k' _ => rs.length - (intOf k').toNat)
  case atStart => exact ⟨0, Nat.zero_le _, rfl, HS.out⟩
  case round =>
    obtain ⟨j, hj, rfl, hst⟩ := hrel
    clear HS c0 c1 c2
    have HS := Lib.hid hst
    clear hst
    by_cases hlt : j < rs.length
    · obtain ⟨b, o, hbl, hidx, c0, c1⟩ := (HI.out.below HS.out.below).at j hlt
      have hpt := HF.out.pt _ (List.getElem_mem hlt)
      generalize rs[j] = r at *
      have g := rcheck_calls r hpt
      clear hpt
      generalize Fl r.a = x at *
      generalize Fl r.b = y at *
      generalize Fl r.c = z at *
      generalize Fl r.d = t at *
      go_wp2_with fail
      go_at_call 63
      refine (g _).mono ?_
      rintro e w1 ⟨rfl, hb⟩
      have HS2 := Lib.hid ((HS.out.next (below1 _ _)).next hb)
      clear hb HS c0 c1 hidx hbl
      go_wp2_with fail
      go_roundw
      case rel => exact ⟨j + 1, by omega, by go_num, HS2.out⟩
      case measure => simp [intOf]; omega
    · obtain rfl : j = rs.length := by omega
      have c0 := cell_at (i := 0) HS.out.blk rfl
      have c1 := cell_at (i := 1) HS.out.blk rfl
      have c2 := cell_at (i := 2) HS.out.blk rfl
      have HR := Lib.hid (HI.out.below HS.out.below)
      by_cases hk : k = 0
      · have hk2 : decide ((0 : Int) < (k : Int)) = false := decide_eq_false (by omega)
        go_wp2_with fail
        go_ret
        exact ⟨rfl, HS.out.below⟩
      · have hk2 : decide ((0 : Int) < (k : Int)) = true := decide_eq_true (by omega)
        have hno : (false = true) ↔ ∀ r ∈ rs, evn r = true := by
          rcases HF.out.one with h | ⟨r, hr, he⟩
          · exact absurd h hk
          · exact ⟨fun h => (by cases h), fun h => by rw [h r hr] at he; cases he⟩
        have g := halvable_calls a c rs _ HR.out false hno
        clear hno
        go_wp2_with fail
        go_at_call 64
        refine g.mono ?_
        rintro e w1 ⟨rfl, hb⟩
        have HS2 := Lib.hid (HS.out.next hb)
        clear hb
        go_wp2_with fail
        go_ret
        exact ⟨rfl, HS2.out.below⟩
end Go.Proofs.YtlobgpgdknjhlaaGreat.WH
