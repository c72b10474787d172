/- gate.Column: walked. -/
import Derived.Test.YtlobgpgdknjhlaaGreatWhL
import Derived.Lib.OwnKind
import Derived.Laws.OwnMore
import Derived.Deep.RegionLaw
import Derived.Deep.CutRange
namespace Go.Proofs.YtlobgpgdknjhlaaGreat.WH
open Go Go.RowKit Go.Proofs.YtlobgpgdknjhlaaGreat.F
set_option linter.unusedVariables false
set_option linter.unusedSimpArgs false

theorem run_store_func (P : Program) (w : World) (a : Addr) (m : Mode) (f : Fn) (x y : Array Value) : (store a (.func f x y) m).run P w = stored P w a (.func f x y) m := run_store P w a _ m rfl
attribute [local go_sem] run_store_complex run_store_func
theorem own_other {W W' : World} {B : Nat} {e e' : TypeId} {z z' : Nat} {v v' : Value} {n n' : Nat} {xs xs' : List Value} (h : W.ownsRow B e z v n xs) (h' : W.ownsRow B e' z' v' n' xs') (hg : W.grownBy W' v'.ownBlock) (hne : e ≠ e') : W'.ownsRow B e z v n xs := by
  refine h.kept hg ?_
  by_cases hv : v.ownBlock = none
  · exact .inl hv
  · refine .inr fun e1 => ?_
    obtain ⟨g, hgv⟩ := Option.ne_none_iff_exists'.1 hv
    obtain ⟨c, fz, k1⟩ := Lib.ownsRow_kind h g hgv
    obtain ⟨c', fz', k2⟩ := Lib.ownsRow_kind h' g (e1 ▸ hgv)
    rw [k1] at k2
    injection k2 with k2
    injection k2 with _ k2
    exact hne k2
theorem kind_kept {W W' : World} {B : Nat} {e' : TypeId} {z' : Nat} {v' : Value} {n' : Nat} {xs' : List Value} (h' : W.ownsRow B e' z' v' n' xs') (hg : W.grownBy W' v'.ownBlock) {k : Nat} {cs : Array Value} {t : TypeId} (hk : W.heap[k]? = some (.cells cs t)) (hne : t ≠ e') : W'.heap[k]? = some (.cells cs t) := by
  refine (hg.block k (Array.getElem?_eq_some_iff.1 hk).1 fun e1 => ?_).trans hk
  obtain ⟨c', fz', k2⟩ := Lib.ownsRow_kind h' k e1.symm
  rw [hk] at k2
  injection k2 with k2
  injection k2 with _ k2
  exact hne k2
theorem grown_below {W W' : World} {B : Nat} {e : TypeId} {z : Nat} {v : Value} {n : Nat} {xs : List Value} (h : W.ownsRow B e z v n xs) (hg : W.grownBy W' v.ownBlock) (hB : B ≤ W.heap.size) : Below B W W' :=
  ⟨hg.os, hg.tape, hg.output, hg.size, fun k hk => hg.block k (Nat.lt_of_lt_of_le hk hB) (fun e => by have := (h.lt k e.symm).1; omega)⟩
theorem Below.grownBy {W W' : World} (h : Below W.heap.size W W') : W.grownBy W' none := ⟨h.os, h.tape, h.output, h.size, fun k hk _ => h.block k hk⟩
theorem Below.heap_some {W W' : World} (h : Below W.heap.size W W') {k : Nat} {o : Obj} (hk : W.heap[k]? = some o) : W'.heap[k]? = some o := (h.block k (Array.getElem?_eq_some_iff.1 hk).1).trans hk

/-- The cells of an entry. -/
def ampCs (c : Ce) : List Value := [.complex .f64 (Fl c.r.a) (Fl c.r.b), .complex .f64 (Fl c.r.c) (Fl c.r.d), .int .i64 c.under]
/-- Column's loop: the lists so far, a box for the entry at hand, the new cells ahead of each append. -/
structure RSt (w0 : World) (b : Nat) (row turn under : Nat) (x y z t : Nat) (lb : Nat) (l : List Ce) (v9 : Value) (n9 : Nat) (xs : List Value) (v10 : Value) (n10 : Nat) (ys : List Value) (q9 q10 : Option Nat) (W : World) : Prop where
  below : Below w0.heap.size w0 W
  box : W.heap[b]? = some (.cells #[.int .i64 row, .int .i64 turn, .int .i64 under] 145)
  src : W.heap[lb]? = some (.cells (flat3 l).toArray 145)
  own9 : W.ownsRow w0.heap.size 3 1 v9 n9 xs
  own10 : W.ownsRow w0.heap.size 103 3 v10 n10 ys
  new9 : ∀ k, q9 = some k → W.heap[k]? = some (.cells #[.int .i64 row] 3)
  new10 : ∀ k, q10 = some k → W.heap[k]? = some (.cells #[.complex .f64 x y, .complex .f64 z t, .int .i64 under] 103)
section
variable {w0 : World} {b lb row turn under x y z t : Nat} {l : List Ce} {v9 v10 : Value} {n9 n10 : Nat} {xs ys : List Value} {q9 q10 : Option Nat} {W W' : World}
theorem RSt.next (h : RSt w0 b row turn under x y z t lb l v9 n9 xs v10 n10 ys q9 q10 W) (hb : Below W.heap.size W W') : RSt w0 b row turn under x y z t lb l v9 n9 xs v10 n10 ys q9 q10 W' :=
  ⟨h.below.trans (hb.mono h.below.size), Below.heap_some hb h.box, Below.heap_some hb h.src, h.own9.kept (Below.grownBy hb) (by cases hv : v9.ownBlock <;> simp), h.own10.kept (Below.grownBy hb) (by cases hv : v10.ownBlock <;> simp), fun k hk => Below.heap_some hb (h.new9 k hk), fun k hk => Below.heap_some hb (h.new10 k hk)⟩
theorem RSt.drew (h : RSt w0 b row turn under x y z t lb l v9 n9 xs v10 n10 ys q9 q10 W) : RSt w0 b row turn under x y z t lb l v9 n9 xs v10 n10 ys q9 q10 W.drew := h.next (Below.refl _ _).drew
theorem RSt.put9 (h : RSt w0 b row turn under x y z t lb l v9 n9 xs v10 n10 ys none q10 W) {k : Nat} (hk : k = W.heap.size) : RSt w0 b row turn under x y z t lb l v9 n9 xs v10 n10 ys (some k) q10 (W.alloc (.cells #[.int .i64 row] 3)) :=
  { h.next (below1 W _) with new9 := fun j hj => by injection hj with hj; subst hj; exact newB _ _ hk }
theorem RSt.put10 (h : RSt w0 b row turn under x y z t lb l v9 n9 xs v10 n10 ys q9 none W) {k : Nat} (hk : k = W.heap.size) : RSt w0 b row turn under x y z t lb l v9 n9 xs v10 n10 ys q9 (some k) (W.alloc (.cells #[.complex .f64 x y, .complex .f64 z t, .int .i64 under] 103)) :=
  { h.next (below1 W _) with new10 := fun j hj => by injection hj with hj; subst hj; exact newB _ _ hk }
set_option maxRecDepth 100000 in
theorem step9 {ops : Array Oper} {o : Oper} {a : Act} {K : Act → World → Prop} {Q : Exit → Act → World → Prop} {E : Prop} {k : Nat} (hgd : o.guard = none) (s x' : Operand) (ho : o.op = .call { callee := .builtin .append, args := #[s, x'], argTypes := #[22, 22] })
    (hx : a.eval x' = .slice (some ⟨k, 0, none⟩) 1 1) (HR : RSt w0 b row turn under x y z t lb l v9 n9 xs v10 n10 ys (some k) q10 W) (hs : a.eval s = v9) (hn : n9 < 100)
    (h : ∀ v' w', RSt w0 b row turn under x y z t lb l v' (n9 + 1) (xs ++ [.int .i64 row]) v10 n10 ys none q10 w' → K (a.put o.dst v') w') : if Region.wanted o (yielded ops a.tmps) = true then Oper.wp Tryz.prog o a W K Q else E := by
  have hw : Region.wanted o (yielded ops a.tmps) = true := by simp [Region.wanted, hgd]
  rw [if_pos hw]
  obtain ⟨i, hi, hz0, hz1, hz2⟩ : ∃ i, Tryz.prog.info? 3 = some i ∧ i.zero = some (.int .i64 0) ∧ i.size = 1 ∧ i.bytes = 8 := ⟨_, rfl, rfl, rfl, rfl⟩
  obtain ⟨v', w', hr, h2, h3, -⟩ := run_append_own (P := Tryz.prog) W w0.heap.size 22 o.type 3 i _ 1 8 Tryz.underlying22 hi hz0 hz1 hz2 rfl (by decide) v9 n9 xs HR.own9 ⟨k, 0, none⟩ 1 1 [.int .i64 row] rfl
    (fun j u hu => by
      match j with
      | 0 => injection hu with hu; subst hu; exact cell_at (i := 0) (HR.new9 k rfl) rfl
      | j + 1 => simp at hu) (by simp [Value.oneCell']) (by unfold maxLen; omega) (by omega) HR.below.size
  unfold Oper.wp execOp
  simp only [ho, resolve, invoke, builtin, Sem.run_bind, Sem.run_pure, Result.andThen_ok, List.map_toArray, List.map_cons, List.map_nil, hs, hx, hr]
  exact h v' w' ⟨HR.below.trans (grown_below HR.own9 h3 HR.below.size), kind_kept HR.own9 h3 HR.box (by decide), kind_kept HR.own9 h3 HR.src (by decide), h2, own_other HR.own10 HR.own9 h3 (by decide), (fun j hj => by cases hj), fun j hj => kind_kept HR.own9 h3 (HR.new10 j hj) (by decide)⟩
set_option maxRecDepth 100000 in
theorem step10 {ops : Array Oper} {o : Oper} {a : Act} {K : Act → World → Prop} {Q : Exit → Act → World → Prop} {E : Prop} {k : Nat} (hgd : o.guard = none) (s x' : Operand) (ho : o.op = .call { callee := .builtin .append, args := #[s, x'], argTypes := #[95, 95] })
    (hx : a.eval x' = .slice (some ⟨k, 0, none⟩) 1 1) (HR : RSt w0 b row turn under x y z t lb l v9 n9 xs v10 n10 ys q9 (some k) W) (hs : a.eval s = v10) (hn : n10 < 100)
    (h : ∀ v' w', RSt w0 b row turn under x y z t lb l v9 n9 xs v' (n10 + 1) (ys ++ [.complex .f64 x y, .complex .f64 z t, .int .i64 under]) q9 none w' → K (a.put o.dst v') w') : if Region.wanted o (yielded ops a.tmps) = true then Oper.wp Tryz.prog o a W K Q else E := by
  have hw : Region.wanted o (yielded ops a.tmps) = true := by simp [Region.wanted, hgd]
  rw [if_pos hw]
  obtain ⟨i, hi, hz0, hz1, hz2⟩ : ∃ i, Tryz.prog.info? 103 = some i ∧ i.zero = some (.agg #[.complex .f64 0 0, .complex .f64 0 0, .int .i64 0]) ∧ i.size = 3 ∧ i.bytes = 40 := ⟨_, rfl, rfl, rfl, rfl⟩
  obtain ⟨v', w', hr, h2, h3, -⟩ := run_append_own (P := Tryz.prog) W w0.heap.size 95 o.type 103 i _ 3 40 Tryz.underlying95 hi hz0 hz1 hz2 rfl (by decide) v10 n10 ys HR.own10 ⟨k, 0, none⟩ 1 1 [.complex .f64 x y, .complex .f64 z t, .int .i64 under] rfl
    (fun j u hu => by
      match j with
      | 0 => injection hu with hu; subst hu; exact cell_at (i := 0) (HR.new10 k rfl) rfl
      | 1 => injection hu with hu; subst hu; exact cell_at (i := 1) (HR.new10 k rfl) rfl
      | 2 => injection hu with hu; subst hu; exact cell_at (i := 2) (HR.new10 k rfl) rfl
      | j + 3 => simp at hu) (by simp [Value.oneCell']) (by unfold maxLen; omega) (by omega) HR.below.size
  unfold Oper.wp execOp
  simp only [ho, resolve, invoke, builtin, Sem.run_bind, Sem.run_pure, Result.andThen_ok, List.map_toArray, List.map_cons, List.map_nil, hs, hx, hr]
  exact h v' w' ⟨HR.below.trans (grown_below HR.own10 h3 HR.below.size), kind_kept HR.own10 h3 HR.box (by decide), kind_kept HR.own10 h3 HR.src (by decide), own_other HR.own9 HR.own10 h3 (by decide), h2, (fun j hj => kind_kept HR.own10 h3 (HR.new9 j hj) (by decide)), fun j hj => by cases hj⟩
end
/-- Between the rounds. -/
structure LSt (w0 : World) (lb : Nat) (l : List Ce) (j : Nat) (v9 v10 : Value) (W : World) : Prop where
  below : Below w0.heap.size w0 W
  src : W.heap[lb]? = some (.cells (flat3 l).toArray 145)
  own9 : W.ownsRow w0.heap.size 3 1 v9 j ((l.take j).map fun c => .int .i64 c.row)
  own10 : W.ownsRow w0.heap.size 103 3 v10 j ((l.take j).flatMap ampCs)
theorem LSt.next {w0 : World} {lb : Nat} {l : List Ce} {j : Nat} {v9 v10 : Value} {W W' : World} (h : LSt w0 lb l j v9 v10 W) (hb : Below W.heap.size W W') : LSt w0 lb l j v9 v10 W' :=
  ⟨h.below.trans (hb.mono h.below.size), Below.heap_some hb h.src, h.own9.kept (Below.grownBy hb) (by cases hv : v9.ownBlock <;> simp), h.own10.kept (Below.grownBy hb) (by cases hv : v10.ownBlock <;> simp)⟩
theorem LSt.open {w0 : World} {lb : Nat} {l : List Ce} {j : Nat} {v9 v10 : Value} {W : World} (h : LSt w0 lb l j v9 v10 W) (row turn under x y z t : Nat) :
    RSt w0 W.heap.size row turn under x y z t lb l v9 j ((l.take j).map fun c => .int .i64 c.row) v10 j ((l.take j).flatMap ampCs) none none (W.alloc (.cells #[.int .i64 row, .int .i64 turn, .int .i64 under] 145)) :=
  have h' := h.next (below1 W (.cells #[.int .i64 row, .int .i64 turn, .int .i64 under] 145))
  ⟨h'.below, newB _ _ rfl, h'.src, h'.own9, h'.own10, fun k hk => (by cases hk), fun k hk => (by cases hk)⟩
theorem LSt.close {w0 : World} {b row turn under x y z t lb : Nat} {l : List Ce} {j : Nat} {v9 v10 : Value} {W : World} (h : RSt w0 b row turn under x y z t lb l v9 (j + 1) (((l.take j).map fun c => .int .i64 c.row) ++ [.int .i64 row]) v10 (j + 1) (((l.take j).flatMap ampCs) ++ [.complex .f64 x y, .complex .f64 z t, .int .i64 under]) none none W)
    (hj : j < l.length) (hr : l[j].row = row) (hc : ampCs l[j] = [.complex .f64 x y, .complex .f64 z t, .int .i64 under]) : LSt w0 lb l (j + 1) v9 v10 W := by
  refine ⟨h.below, h.src, ?_, ?_⟩
  · have h1 := h.own9
    rw [List.take_add_one, List.getElem?_eq_getElem hj, List.map_append]
    simpa [hr] using h1
  · have h1 := h.own10
    rw [List.take_add_one, List.getElem?_eq_getElem hj, List.flatMap_append]
    simpa [hc] using h1
theorem flat3_len : ∀ l : List Ce, (flat3 l).length = 3 * l.length
  | [] => rfl
  | c :: l => by
    have h := flat3_len l
    simp only [flat3, List.flatMap_cons, List.length_append, List.length_cons, List.length_nil] at h ⊢
    omega
theorem flat3_at : ∀ (l : List Ce) (j : Nat) (hj : j < l.length), (flat3 l)[j * 3]? = some (.int .i64 l[j].row) ∧ (flat3 l)[j * 3 + 1]? = some (.int .i64 l[j].turn) ∧ (flat3 l)[j * 3 + 2]? = some (.int .i64 l[j].under)
  | c :: l, 0, _ => ⟨rfl, rfl, rfl⟩
  | c :: l, j + 1, hj => by
    have h := flat3_at l j (by simpa using hj)
    simp only [flat3, List.flatMap_cons, List.getElem_cons_succ] at h ⊢
    have e : (j + 1) * 3 = 3 + j * 3 := by omega
    rw [e, Nat.add_assoc 3, Nat.add_assoc 3]
    refine ⟨?_, ?_, ?_⟩ <;> rw [List.getElem?_append_right (by simp)] <;> simp only [List.length_cons, List.length_nil, Nat.add_sub_cancel_left, Nat.zero_add, Nat.reduceAdd]
    · exact h.1
    · exact h.2.1
    · exact h.2.2
theorem entry_at {W : World} {lb : Nat} {l : List Ce} (h : W.heap[lb]? = some (.cells (flat3 l).toArray 145)) (j : Nat) (hj : j < l.length) :
    (∀ W', (Instr.indexAt 143 (Value.slice (some ⟨lb, 0, none⟩) l.length l.length) (.int .i64 j)).run Tryz.prog W' = .ok (.pointer (some ⟨lb, j * 3, none⟩)) W') ∧ W.cell? ⟨lb, j * 3, none⟩ = some (.int .i64 l[j].row) ∧ W.cell? ⟨lb, j * 3 + 1, none⟩ = some (.int .i64 l[j].turn) ∧ W.cell? ⟨lb, j * 3 + 2, none⟩ = some (.int .i64 l[j].under) := by
  have hf := flat3_at l j hj
  refine ⟨fun W' => ?_, cell_at h (by rw [List.getElem?_toArray]; exact hf.1), cell_at h (by rw [List.getElem?_toArray]; exact hf.2.1), cell_at h (by rw [List.getElem?_toArray]; exact hf.2.2)⟩
  have hs : ∀ W, (Go.sizeOf (Tryz.prog.elem 143)).run Tryz.prog W = .ok 3 W := fun _ => by kernel_rfl
  rw [run_indexAt_slice _ 143 _ _ _ _ _ (by kernel_rfl), if_pos ⟨by omega, by exact_mod_cast hj⟩, hs]
  simp [Result.andThen, Addr.add]
  try omega
/-- The three cells of an amplitude. -/
def Cell3 (W : World) (b o : Nat) (c : Ce) : Prop := W.cell? ⟨b, o, none⟩ = some (.complex .f64 (Fl c.r.a) (Fl c.r.b)) ∧ W.cell? ⟨b, o + 1, none⟩ = some (.complex .f64 (Fl c.r.c) (Fl c.r.d)) ∧ W.cell? ⟨b, o + 2, none⟩ = some (.int .i64 c.under)
/-- A slice of amplitudes. -/
structure Amps (w : World) (a : Option Addr) (cp : Nat) (l : List Ce) : Prop where
  len : l.length ≤ cp
  cap : cp ≤ 9223372036854775807
  at_ : l = [] ∨ ∃ b off, a = some ⟨b, off, none⟩ ∧ ∀ (j : Nat) (h : j < l.length), Cell3 w b (off + j * 3) l[j]
theorem Cell3.below {w w' : World} {b o : Nat} {c : Ce} (h : Cell3 w b o c) (hb : Below w.heap.size w w') : Cell3 w' b o c :=
  ⟨(hb.cell (p := ⟨b, o, none⟩) (block_lt h.1)).trans h.1, (hb.cell (p := ⟨b, o + 1, none⟩) (block_lt h.1)).trans h.2.1, (hb.cell (p := ⟨b, o + 2, none⟩) (block_lt h.1)).trans h.2.2⟩
theorem Amps.below {w w' : World} {a : Option Addr} {cp : Nat} {l : List Ce} (h : Amps w a cp l) (hb : Below w.heap.size w w') : Amps w' a cp l :=
  { h with at_ := h.at_.imp id fun ⟨b, off, ha, hc⟩ => ⟨b, off, ha, fun j hj => (hc j hj).below hb⟩ }
theorem Amps.at {w : World} {a : Option Addr} {cp : Nat} {l : List Ce} (h : Amps w a cp l) (j : Nat) (hj : j < l.length) :
    ∃ b o, b < w.heap.size ∧ (∀ W, (Instr.indexAt 95 (Value.slice a l.length cp) (.int .i64 j)).run Tryz.prog W = .ok (.pointer (some ⟨b, o, none⟩)) W) ∧ Cell3 w b o l[j] := by
  rcases h.at_ with rfl | ⟨b, off, rfl, hc⟩
  · simp at hj
  · refine ⟨b, off + j * 3, block_lt (hc j hj).1, fun W => ?_, hc j hj⟩
    have hs : ∀ W, (Go.sizeOf (Tryz.prog.elem 95)).run Tryz.prog W = .ok 3 W := fun _ => by kernel_rfl
    rw [run_indexAt_slice _ 95 _ _ _ _ _ (by kernel_rfl), if_pos ⟨by omega, by exact_mod_cast hj⟩, hs]
    simp [Result.andThen, Addr.add]
theorem amps_at : ∀ (l : List Ce) (j : Nat) (hj : j < l.length), (l.flatMap ampCs)[j * 3]? = some (.complex .f64 (Fl l[j].r.a) (Fl l[j].r.b)) ∧ (l.flatMap ampCs)[j * 3 + 1]? = some (.complex .f64 (Fl l[j].r.c) (Fl l[j].r.d)) ∧ (l.flatMap ampCs)[j * 3 + 2]? = some (.int .i64 l[j].under)
  | c :: l, 0, _ => ⟨rfl, rfl, rfl⟩
  | c :: l, j + 1, hj => by
    have h := amps_at l j (by simpa using hj)
    simp only [List.flatMap_cons, List.getElem_cons_succ] at h ⊢
    have hl : (ampCs c).length = 3 := rfl
    have e : (j + 1) * 3 = 3 + j * 3 := by omega
    rw [e, Nat.add_assoc 3, Nat.add_assoc 3]
    refine ⟨?_, ?_, ?_⟩ <;> rw [List.getElem?_append_right (by rw [hl]; omega), hl] <;> simp only [Nat.add_sub_cancel_left]
    · exact h.1
    · exact h.2.1
    · exact h.2.2
/-- The end: both slices. -/
theorem LSt.done {w0 : World} {lb : Nat} {l : List Ce} {v9 v10 : Value} {W : World} (h : LSt w0 lb l l.length v9 v10 W) :
    ∃ a9 c9 a10 c10, v9 = .slice a9 l.length c9 ∧ v10 = .slice a10 l.length c10 ∧ Ints W a9 c9 (l.map (·.row)) ∧ Amps W a10 c10 l := by
  obtain ⟨-, -, o9, o10⟩ := h
  rw [List.take_length] at o9 o10
  have h9 : ∃ a9 c9, v9 = .slice a9 l.length c9 ∧ Ints W a9 c9 (l.map (·.row)) := by
    rcases o9.2 with ⟨rfl, hn⟩ | ⟨g, cap, cur, rfl, hb, hg, hnc, hcm, hcs, ht⟩
    · refine ⟨none, 0, by rw [hn], ⟨by simp [hn], by simp, .inl (by rw [List.length_eq_zero_iff] at hn; rw [hn]; rfl)⟩⟩
    · refine ⟨_, _, rfl, ⟨by simpa using hnc, by unfold maxLen at hcm; omega, .inr ⟨g, 0, rfl, fun j hj => ?_⟩⟩⟩
      have hj' : j < l.length := by simpa using hj
      refine cell_at hg ?_
      have e : (cur.toList.take (l.length * 1))[j]? = some (.int .i64 l[j].row) := by rw [ht]; simp [hj']
      rw [List.getElem?_take] at e
      rw [Nat.zero_add, ← Array.getElem?_toList, List.getElem_map]
      by_cases hlt : j < l.length * 1
      · rwa [if_pos hlt] at e
      · omega
  have h10 : ∃ a10 c10, v10 = .slice a10 l.length c10 ∧ Amps W a10 c10 l := by
    rcases o10.2 with ⟨rfl, hn⟩ | ⟨g, cap, cur, rfl, hb, hg, hnc, hcm, hcs, ht⟩
    · refine ⟨none, 0, by rw [hn], ⟨by simp [hn], by simp, .inl (by rw [List.length_eq_zero_iff] at hn; rw [hn])⟩⟩
    · refine ⟨_, _, rfl, ⟨hnc, by unfold maxLen at hcm; omega, .inr ⟨g, 0, rfl, fun j hj => ?_⟩⟩⟩
      have hc := amps_at l j hj
      rw [← ht] at hc
      simp only [List.getElem?_take] at hc
      rw [if_pos (by omega), if_pos (by omega), if_pos (by omega)] at hc
      rw [Nat.zero_add]
      exact ⟨cell_at hg (by rw [← Array.getElem?_toList]; exact hc.1), cell_at hg (by rw [← Array.getElem?_toList]; exact hc.2.1), cell_at hg (by rw [← Array.getElem?_toList]; exact hc.2.2)⟩
  obtain ⟨a9, c9, e9, i9⟩ := h9
  obtain ⟨a10, c10, e10, i10⟩ := h10
  exact ⟨a9, c9, a10, c10, e9, e10, i9, i10⟩
theorem ar_le : ∀ e ∈ gates, 1 ≤ e.ar ∧ e.ar ≤ 3 := by decide +kernel
theorem f_len : ∀ e ∈ gates, ∀ y < 8, 1 ≤ (e.f y).length ∧ (e.f y).length ≤ 2 := by decide +kernel
set_option maxRecDepth 100000 in
set_option maxHeartbeats 4000000 in
theorem column_calls (e : En) (he : e ∈ gates) (y : Nat) (hy : y < 2 ^ e.ar) (w : World) : Calls Tryz.prog 42 #[.string e.name, .int .i64 y] w fun x w' => ∃ a9 c9 a10 c10, x = .returned (.tuple #[.slice a9 (e.f y).length c9, .slice a10 (e.f y).length c10, .int .i64 0]) ∧ Ints w' a9 c9 ((e.f y).map (·.row)) ∧ Amps w' a10 c10 (e.f y) ∧ Below w.heap.size w w' := by
  have hk := kinds_at e he w
  have h0 := fld0
  have hs9 := gates_size _ he
  have har := ar_le e he
  have hfl := f_len e he
  obtain ⟨name, ar, ha, cl, di, back, f⟩ := e
  simp only [En.val] at hk
  simp only at hy hs9 har hfl
  have hy8 : y < 8 := Nat.lt_of_lt_of_le hy (Nat.pow_le_pow_right (by decide) har.2)
  have hsh : wrap64 (2 ^ min ar 64) = (2 : Int) ^ ar := by
    have h3 : ar = 1 ∨ ar = 2 ∨ ar = 3 := by omega
    rcases h3 with rfl | rfl | rfl <;> decide +kernel
  have hb2 : decide ((2 : Int) ^ ar ≤ (y : Int)) = false := by
    have h3 : (y : Int) < ((2 ^ ar : Nat) : Int) := by exact_mod_cast hy
    rw [Int.natCast_pow] at h3
    exact decide_eq_false (by push_cast at h3; omega)
  have hb3 : decide ((y : Int) < 0) = false := decide_eq_false (by omega)
  have hfy := hfl y hy8
  clear hy hfl har
  go_enter Tryz.func42, Tryz.ntmps42
  go_wp2_with fail
  go_at_call 71
  refine hk.mono ?_
  rintro x w1 ⟨B, v, rfl, hb, hc, hlo, -, hl⟩
  obtain ⟨fn, cap, rfl, henter, hcc⟩ := hc
  have HC := Lib.hid hcc
  have HB1 := Lib.hid hb
  clear hcc hb
  go_wp2_with fail
  refine (HC.out _ (But.of (below1 _ _)) y hy8).mono ?_
  rintro x w2 ⟨lb, rfl, hsrc, hb2', hlb⟩
  have HL : Hid (LSt w lb (f y) 0 (.slice none 0 0) (.slice none 0 0) w2) := Lib.hid ⟨(HB1.out.trans ((below1 w1 _).mono HB1.out.size)).trans (hb2'.mono (Nat.le_trans HB1.out.size (below1 w1 _).size)), hsrc, by simpa using World.ownsRow_nil _ _ _ _, by simpa using World.ownsRow_nil _ _ _ _⟩
  clear hsrc hb2' hlb HC hl henter h0 hk hb2 hb3 hsh
  generalize hfe : f y = l at *
  obtain ⟨hl1, hl2⟩ := hfy
  go_wp2_with fail
  go_loopw [9, 10, 35] (fun v9 v10 k W => ∃ j : Nat, j ≤ l.length ∧ k = .int .i64 j ∧ LSt w lb l j v9 v10 W) (fun _ _ k _ => l.length - (intOf k).toNat)
  case atStart => exact ⟨0, Nat.zero_le _, rfl, HL.out⟩
  case round =>
    obtain ⟨j, hj, rfl, hst⟩ := hrel
    have HS := Lib.hid hst
    clear hst HL
    by_cases hlt : j < l.length
    · have gv := value_calls l[j]
      obtain ⟨hidx, c0, c1, c2⟩ := entry_at HS.out.src j hlt
      have HR := Lib.hid (HS.out.open l[j].row l[j].turn l[j].under (Fl l[j].r.a) (Fl l[j].r.b) (Fl l[j].r.c) (Fl l[j].r.d))
      have HX : Hid (ampCs l[j] = [.complex .f64 (Fl l[j].r.a) (Fl l[j].r.b), .complex .f64 (Fl l[j].r.c) (Fl l[j].r.d), .int .i64 l[j].under]) := Lib.hid rfl
      have HW : Hid (l[j].row = l[j].row) := Lib.hid rfl
      have hn : j < 100 := by omega
      unfold ampV at gv
      generalize Fl l[j].r.a = x at *
      generalize Fl l[j].r.b = y' at *
      generalize Fl l[j].r.c = z at *
      generalize Fl l[j].r.d = t at *
      go_wp2_with fail
      generalize wr.alloc (.cells #[.int .i64 l[j].row, .int .i64 l[j].turn, .int .i64 l[j].under] 145) = W2 at *
      clear c0 c1 c2 hidx
      have HCL : Hid (∀ v9 v10 W, RSt w wr.heap.size l[j].row l[j].turn l[j].under x y' z t lb l v9 (j + 1) (((l.take j).map fun c => .int .i64 c.row) ++ [.int .i64 l[j].row]) v10 (j + 1) (((l.take j).flatMap ampCs) ++ [.complex .f64 x y', .complex .f64 z t, .int .i64 l[j].under]) none none W → LSt w lb l (j + 1) v9 v10 W) := Lib.hid fun v9 v10 W h => LSt.close h hlt rfl HX.out
      generalize l[j].row = row at *
      generalize l[j].turn = turn at *
      generalize l[j].under = under at *
      generalize (l.take j).map (fun c : Ce => Value.int .i64 c.row) = xs at *
      generalize (l.take j).flatMap ampCs = ys at *
      generalize wr.heap.size = bx at *
      clear HX HW
      have k0 := cell_at (i := 0) HR.out.box rfl
      have k1 := cell_at (i := 1) HR.out.box rfl
      have k2 := cell_at (i := 2) HR.out.box rfl
      have kl := block_lt k0
      go_region_law (first
        | ((first | refine step9 rfl _ _ rfl rfl (HR.out) rfl hn ?_ | refine step9 rfl _ _ rfl rfl (HR.out.drew) rfl hn ?_ | refine step9 rfl _ _ rfl rfl (HR.out.put9 (by simp)) rfl hn ?_ | refine step9 rfl _ _ rfl rfl (HR.out.drew.put9 (by simp)) rfl hn ?_ | refine step9 rfl _ _ rfl rfl ((HR.out.put9 (by simp)).drew) rfl hn ?_ | refine step9 rfl _ _ rfl rfl (HR.out.put10 (by simp)) rfl hn ?_ | refine step9 rfl _ _ rfl rfl ((HR.out.put9 (by simp)).put10 (by simp)) rfl hn ?_ | refine step9 rfl _ _ rfl rfl ((HR.out.put10 (by simp)).put9 (by simp)) rfl hn ?_); intro v' w' hr'; replace HR := Lib.hid hr'; clear hr' k0 k1 k2 kl; have k0 := cell_at (i := 0) HR.out.box rfl; have k1 := cell_at (i := 1) HR.out.box rfl; have k2 := cell_at (i := 2) HR.out.box rfl; have kl := block_lt k0)
        | ((first | refine step10 rfl _ _ rfl rfl (HR.out) rfl hn ?_ | refine step10 rfl _ _ rfl rfl (HR.out.drew) rfl hn ?_ | refine step10 rfl _ _ rfl rfl (HR.out.put9 (by simp)) rfl hn ?_ | refine step10 rfl _ _ rfl rfl (HR.out.drew.put9 (by simp)) rfl hn ?_ | refine step10 rfl _ _ rfl rfl ((HR.out.put9 (by simp)).drew) rfl hn ?_ | refine step10 rfl _ _ rfl rfl (HR.out.put10 (by simp)) rfl hn ?_ | refine step10 rfl _ _ rfl rfl ((HR.out.put9 (by simp)).put10 (by simp)) rfl hn ?_ | refine step10 rfl _ _ rfl rfl ((HR.out.put10 (by simp)).put9 (by simp)) rfl hn ?_); intro v' w' hr'; replace HR := Lib.hid hr'; clear hr' k0 k1 k2 kl; have k0 := cell_at (i := 0) HR.out.box rfl; have k1 := cell_at (i := 1) HR.out.box rfl; have k2 := cell_at (i := 2) HR.out.box rfl; have kl := block_lt k0)
        | (go_simp; go_at_call 72; refine (gv _).mono ?_; rintro e w1 ⟨rfl, hb1⟩; replace HR := Lib.hid (RSt.next (by first | (exact HR.out) | (exact HR.out.drew) | (exact HR.out.put9 (by simp)) | (exact HR.out.drew.put9 (by simp)) | (exact (HR.out.put9 (by simp)).drew) | (exact HR.out.put10 (by simp)) | (exact (HR.out.put9 (by simp)).put10 (by simp)) | (exact (HR.out.put10 (by simp)).put9 (by simp))) hb1); clear hb1 k0 k1 k2 kl; have k0 := cell_at (i := 0) HR.out.box rfl; have k1 := cell_at (i := 1) HR.out.box rfl; have k2 := cell_at (i := 2) HR.out.box rfl; have kl := block_lt k0))
      all_goals (
        replace HR := Lib.hid (HCL.out _ _ _ HR.out)
        clear k0 k1 k2 kl
        go_wp2_with fail
        go_roundw
        case rel => exact ⟨j + 1, by omega, by go_num, HR.out⟩
        case measure => simp [intOf]; omega)
    · obtain rfl : j = l.length := by omega
      obtain ⟨a9, c9, a10, c10, rfl, rfl, h9, h10⟩ := HS.out.done
      have HE := Lib.hid (And.intro h9 (And.intro h10 HS.out.below))
      clear h9 h10
      go_wp2_with fail
      subst hfe
      refine bodyPost_ret (v := .tuple #[.slice a9 (f y).length c9, .slice a10 (f y).length c10, .int .i64 0]) (by simp [results, Tryz.results42, go_sem, *]) rfl ⟨a9, c9, a10, c10, rfl, HE.out⟩
end Go.Proofs.YtlobgpgdknjhlaaGreat.WH
