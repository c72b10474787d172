/- dense.Apply: walked. -/
import Derived.Test.YtlobgpgdknjhlaaGreatWhQ
import Derived.Deep.RegionWith
import Derived.Deep.CutRange
namespace Go.Proofs.YtlobgpgdknjhlaaGreat.WH
open Go Go.RowKit Go.Proofs.YtlobgpgdknjhlaaGreat.F
set_option linter.unusedVariables false
set_option linter.unusedSimpArgs false
attribute [local go_sem] run_store_complex run_store_func
/-- The parameter's box, the result's cells. -/
structure A0 (w : World) (n k : Nat) (sv : Option Addr) (sl sc : Nat) (W : World) : Prop where
  below : Below w.heap.size w W
  par : W.heap[w.heap.size]? = some (.cells #[.int .i64 n, .int .i64 k, .slice sv sl sc] 37)
  res : W.heap[w.heap.size + 1]? = some (.cells #[.int .i64 0, .int .i64 0, .slice none 0 0] 37)
theorem A0.start (w : World) (n k : Nat) (sv : Option Addr) (sl sc : Nat) : A0 w n k sv sl sc ((w.alloc (.cells #[.int .i64 n, .int .i64 k, .slice sv sl sc] 37)).alloc (.cells #[.int .i64 0, .int .i64 0, .slice none 0 0] 37)) :=
  ⟨(below1 _ _).trans ((below1 _ _).mono (by simp)), Below.heap_some (below1 _ _) (newB _ _ rfl), newB _ _ (by simp)⟩
theorem A0.next {w W W' : World} {n k : Nat} {sv : Option Addr} {sl sc : Nat} (h : A0 w n k sv sl sc W) (hb : Below W.heap.size W W') : A0 w n k sv sl sc W' :=
  ⟨h.below.trans (hb.mono h.below.size), Below.heap_some hb h.par, Below.heap_some hb h.res⟩
/-- And the state under way. -/
structure ASt (w : World) (n k : Nat) (sv : Option Addr) (sl sc k2 b11 BO len : Nat) (l : List Rg) (W : World) : Prop where
  a0 : A0 w n k sv sl sc W
  out : W.heap[b11]? = some (.cells #[.int .i64 n, .int .i64 k2, .slice (some ⟨BO, 0, none⟩) len len] 37)
  own : OwnR W BO l
  gt : w.heap.size ≤ BO
  len : l.length = len
section
variable {w W W' : World} {n k sl sc k2 b11 BO len : Nat} {sv : Option Addr} {l : List Rg}
theorem ASt.next (h : ASt w n k sv sl sc k2 b11 BO len l W) (hb : Below W.heap.size W W') : ASt w n k sv sl sc k2 b11 BO len l W' :=
  ⟨h.a0.next hb, Below.heap_some hb h.out, h.own.below hb, h.gt, h.len⟩
theorem kinds_ne {W : World} {a b : Nat} {cs cs' : Array Value} {t t' : TypeId} (h : W.heap[a]? = some (.cells cs t)) (h' : W.heap[b]? = some (.cells cs' t')) (hne : t ≠ t') : a ≠ b := by
  rintro rfl
  rw [h] at h'
  injection h' with h'
  injection h' with _ h'
  exact hne h'
theorem ASt.put (h : ASt w n k sv sl sc k2 b11 BO len l W) (j : Nat) (hj : j < len) (r : Rg) : ASt w n k sv sl sc k2 b11 BO len (l.set j r) ((W.setCell ⟨BO, j * 2, none⟩ (.complex .f64 (Fl r.a) (Fl r.b))).setCell ⟨BO, j * 2 + 1, none⟩ (.complex .f64 (Fl r.c) (Fl r.d))) := by
  have h1 := kinds_ne h.a0.par h.own (by decide)
  have h2 := kinds_ne h.a0.res h.own (by decide)
  have h3 := kinds_ne h.out h.own (by decide)
  exact ⟨⟨(h.a0.below.setCell (p := ⟨BO, j * 2, none⟩) h.gt _).setCell (p := ⟨BO, j * 2 + 1, none⟩) h.gt _, by rw [setCell_far h1, setCell_far h1]; exact h.a0.par, by rw [setCell_far h2, setCell_far h2]; exact h.a0.res⟩, by rw [setCell_far h3, setCell_far h3]; exact h.out, h.own.put j (by rw [h.len]; exact hj) r, h.gt, by rw [List.length_set]; exact h.len⟩
end
theorem ASt.one {w W : World} {n k sl sc k2 len : Nat} {sv : Option Addr} {l : List Rg} (h : A0 w n k sv sl sc W) (hl : l.length = len) : ∃ b11 BO,
    Value.pointer (some ⟨W.heap.size + 1, 0, none⟩) = Value.pointer (some ⟨b11, 0, none⟩) ∧ ASt w n k sv sl sc k2 b11 BO len l ((W.alloc (.cells (flat2 l).toArray 65)).alloc (.cells #[.int .i64 n, .int .i64 k2, .slice (some ⟨W.heap.size, 0, none⟩) len len] 37)).drew :=
  ⟨_, _, rfl, ⟨((h.next (below1 _ _)).next (below1 _ _)).next (Below.refl _ _).drew, newB _ _ (by simp), OwnR.below (OwnR.below (newB _ _ rfl) (below1 _ _)) (Below.refl _ _).drew, h.below.size, hl⟩⟩
theorem ASt.two {w W : World} {n k sl sc k2 len : Nat} {sv : Option Addr} {l : List Rg} (h : A0 w n k sv sl sc W) (hl : l.length = len) : ∃ b11 BO,
    Value.pointer (some ⟨W.heap.size, 0, none⟩) = Value.pointer (some ⟨b11, 0, none⟩) ∧ ASt w n k sv sl sc k2 b11 BO len l ((W.alloc (.cells #[.int .i64 n, .int .i64 k2, .slice (some ⟨W.heap.size + 1, 0, none⟩) len len] 37)).alloc (.cells (flat2 l).toArray 65)).drew :=
  ⟨_, _, rfl, ⟨((h.next (below1 _ _)).next (below1 _ _)).next (Below.refl _ _).drew, Below.heap_some (Below.refl _ _).drew (Below.heap_some (below1 _ _) (newB _ _ rfl)), OwnR.below (newB _ _ (by simp)) (Below.refl _ _).drew, Nat.le_succ_of_le h.below.size, hl⟩⟩
theorem two_complex : ∀ (l : List Rg) (i : Nat) (v : Value), (flat2 l)[i]? = some v → ∃ x y, v = .complex .f64 x y
  | [], i, v, h => by simp [flat2] at h
  | r :: l, 0, v, h => by
    have e : (flat2 (r :: l))[0]? = some (.complex .f64 (Fl r.a) (Fl r.b)) := rfl
    rw [e] at h
    injection h with h
    exact ⟨_, _, h.symm⟩
  | r :: l, 1, v, h => by
    have e : (flat2 (r :: l))[1]? = some (.complex .f64 (Fl r.c) (Fl r.d)) := rfl
    rw [e] at h
    injection h with h
    exact ⟨_, _, h.symm⟩
  | r :: l, i + 2, v, h => by
    have e : (flat2 (r :: l))[i + 2]? = (flat2 l)[i]? := rfl
    rw [e] at h
    exact two_complex l i v h
theorem OwnR.not_int {W : World} {B o : Nat} {l : List Rg} {k : IntKind} {z : Int} (h : OwnR W B l) (hc : W.cell? ⟨B, o, none⟩ = some (.int k z)) : False := by
  have h1 : W.cell? ⟨B, o, none⟩ = (flat2 l).toArray[o]? := by
    unfold World.cell?
    rw [h]
    rfl
  rw [h1, List.getElem?_toArray] at hc
  obtain ⟨x, y, e⟩ := two_complex l o _ hc
  cases e
theorem Ints.putR {W : World} {B o : Nat} {l : List Rg} {v : Value} {a : Option Addr} {c : Nat} {qs : List Nat} (h : Ints W a c qs) (ho : OwnR W B l) : Ints (W.setCell ⟨B, o, none⟩ v) a c qs := by
  refine { h with at_ := h.at_.imp id ?_ }
  rintro ⟨b, off, e, hc⟩
  refine ⟨b, off, e, fun j hj => ?_⟩
  have hne : b ≠ B := by rintro rfl; exact ho.not_int (hc j hj)
  exact (World.cell?_of_block (w := W) (setCell_far hne)).trans (hc j hj)
theorem Amps.putR {W : World} {B o : Nat} {l : List Rg} {v : Value} {a : Option Addr} {c : Nat} {cs : List Ce} (h : Amps W a c cs) (ho : OwnR W B l) : Amps (W.setCell ⟨B, o, none⟩ v) a c cs := by
  refine { h with at_ := h.at_.imp id ?_ }
  rintro ⟨b, off, e, hc⟩
  refine ⟨b, off, e, fun j hj => ?_⟩
  have hne : b ≠ B := by rintro rfl; exact ho.not_int (hc j hj).2.2
  exact ⟨(World.cell?_of_block (w := W) (setCell_far hne)).trans (hc j hj).1, (World.cell?_of_block (w := W) (setCell_far hne)).trans (hc j hj).2.1, (World.cell?_of_block (w := W) (setCell_far hne)).trans (hc j hj).2.2⟩
theorem But.above {B : Nat} {w0 w W : World} (h : But B w W) (hb : Below w0.heap.size w0 w) (hB : w0.heap.size ≤ B) : Below w0.heap.size w0 W :=
  ⟨h.os.trans hb.os, h.tape.trans hb.tape, h.output.trans hb.output, Nat.le_trans hb.size h.size, fun k hk => (h.block k (Nat.lt_of_lt_of_le hk hb.size) (by omega)).trans (hb.block k hk)⟩
theorem al_first {W w' : World} (hb : Below ((W.alloc (.cells #[.complex .f64 0 0, .complex .f64 0 0] 65)).drew).heap.size ((W.alloc (.cells #[.complex .f64 0 0, .complex .f64 0 0] 65)).drew) w') : In2 w' W.heap.size 0 0 0 0 :=
  ((In2.new W 0 0 0 0 rfl).step (Below.refl _ _).drew).step hb
/-- With a column's lists. -/
structure XSt (w : World) (n k : Nat) (sv : Option Addr) (sl sc k2 b11 BO len : Nat) (l : List Rg) (a9 : Option Addr) (c9 : Nat) (a10 : Option Addr) (c10 : Nat) (cs : List Ce) (W : World) : Prop where
  st : ASt w n k sv sl sc k2 b11 BO len l W
  rows : Ints W a9 c9 (cs.map (·.row))
  amps : Amps W a10 c10 cs
section
variable {w W W' : World} {n k sl sc k2 b11 BO len c9 c10 : Nat} {sv a9 a10 : Option Addr} {l : List Rg} {cs : List Ce}
theorem XSt.next (h : XSt w n k sv sl sc k2 b11 BO len l a9 c9 a10 c10 cs W) (hb : Below W.heap.size W W') : XSt w n k sv sl sc k2 b11 BO len l a9 c9 a10 c10 cs W' := ⟨h.st.next hb, h.rows.below hb, h.amps.below hb⟩
theorem XSt.put (h : XSt w n k sv sl sc k2 b11 BO len l a9 c9 a10 c10 cs W) (j : Nat) (hj : j < len) (r : Rg) : XSt w n k sv sl sc k2 b11 BO len (l.set j r) a9 c9 a10 c10 cs ((W.setCell ⟨BO, j * 2, none⟩ (.complex .f64 (Fl r.a) (Fl r.b))).setCell ⟨BO, j * 2 + 1, none⟩ (.complex .f64 (Fl r.c) (Fl r.d))) := by
  have h0 := h.st.put j hj r
  have h1 := h.st.own
  have h2 : OwnR ((W.setCell ⟨BO, j * 2, none⟩ (.complex .f64 (Fl r.a) (Fl r.b))).setCell ⟨BO, j * 2 + 1, none⟩ (.complex .f64 (Fl r.c) (Fl r.d))) BO (l.set j r) := h0.own
  have hne : ∀ b o k' z, W.cell? ⟨b, o, none⟩ = some (.int k' z) → b ≠ BO := fun b o k' z hc e => by subst e; exact h1.not_int hc
  have hk : ∀ b o v, b ≠ BO → W.cell? ⟨b, o, none⟩ = some v → ((W.setCell ⟨BO, j * 2, none⟩ (.complex .f64 (Fl r.a) (Fl r.b))).setCell ⟨BO, j * 2 + 1, none⟩ (.complex .f64 (Fl r.c) (Fl r.d))).cell? ⟨b, o, none⟩ = some v := fun b o v hb hc =>
    (World.cell?_of_block (w := W) ((setCell_far hb).trans (setCell_far hb))).trans hc
  refine ⟨h0, { h.rows with at_ := h.rows.at_.imp id ?_ }, { h.amps with at_ := h.amps.at_.imp id ?_ }⟩
  · rintro ⟨b, off, e, hc⟩
    exact ⟨b, off, e, fun i hi => hk _ _ _ (hne _ _ _ _ (hc i hi)) (hc i hi)⟩
  · rintro ⟨b, off, e, hc⟩
    exact ⟨b, off, e, fun i hi => ⟨hk _ _ _ (hne _ _ _ _ (hc i hi).2.2) (hc i hi).1, hk _ _ _ (hne _ _ _ _ (hc i hi).2.2) (hc i hi).2.1, hk _ _ _ (hne _ _ _ _ (hc i hi).2.2) (hc i hi).2.2⟩⟩
end
/-- An element's box. -/
def Bx (W : World) (b x y z t : Nat) : Prop := W.heap[b]? = some (.cells #[.complex .f64 x y, .complex .f64 z t] 65)
section
variable {w W W' : World} {n k sl sc k2 b11 BO len c9 c10 b17 r1 r2 r3 r4 t1 t2 t3 t4 : Nat} {sv a9 a10 : Option Addr} {l : List Rg} {cs : List Ce}
theorem XSt.fin1 (h : XSt w n k sv sl sc k2 b11 BO len l a9 c9 a10 c10 cs W) (hx : Bx W b17 r1 r2 r3 r4) (hb : Below W.drew.heap.size W.drew W') : ∃ b24, Value.pointer (some ⟨W'.heap.size, 0, none⟩) = Value.pointer (some ⟨b24, 0, none⟩) ∧ Value.int .i64 0 = Value.int .i64 0 ∧ XSt w n k sv sl sc k2 b11 BO len l a9 c9 a10 c10 cs (W'.alloc (.cells #[.complex .f64 t1 t2, .complex .f64 t3 t4] 65)) ∧ Bx (W'.alloc (.cells #[.complex .f64 t1 t2, .complex .f64 t3 t4] 65)) b17 r1 r2 r3 r4 ∧ Bx (W'.alloc (.cells #[.complex .f64 t1 t2, .complex .f64 t3 t4] 65)) b24 t1 t2 t3 t4 ∧ b24 ≠ BO := by
  have hb1 : Below W.heap.size W W' := ((Below.refl _ W).drew).trans hb
  have hlt := (Array.getElem?_eq_some_iff.1 h.st.own).1
  have hsz := hb1.size
  exact ⟨_, rfl, rfl, (h.next hb1).next (below1 _ _), Below.heap_some (below1 _ _) (Below.heap_some hb1 hx), newB _ _ rfl, by omega⟩
theorem XSt.fin2 (h : XSt w n k sv sl sc k2 b11 BO len l a9 c9 a10 c10 cs W) (hx : Bx W b17 r1 r2 r3 r4) (hb : Below ((W.alloc (.cells #[.complex .f64 0 0, .complex .f64 0 0] 65)).drew).heap.size ((W.alloc (.cells #[.complex .f64 0 0, .complex .f64 0 0] 65)).drew) W') : ∃ b24, Value.pointer (some ⟨W.heap.size, 0, none⟩) = Value.pointer (some ⟨b24, 0, none⟩) ∧ Value.int .i64 0 = Value.int .i64 0 ∧ XSt w n k sv sl sc k2 b11 BO len l a9 c9 a10 c10 cs ((W'.setCell ⟨W.heap.size, 0, none⟩ (.complex .f64 t1 t2)).setCell ⟨W.heap.size, 1, none⟩ (.complex .f64 t3 t4)) ∧ Bx ((W'.setCell ⟨W.heap.size, 0, none⟩ (.complex .f64 t1 t2)).setCell ⟨W.heap.size, 1, none⟩ (.complex .f64 t3 t4)) b17 r1 r2 r3 r4 ∧ Bx ((W'.setCell ⟨W.heap.size, 0, none⟩ (.complex .f64 t1 t2)).setCell ⟨W.heap.size, 1, none⟩ (.complex .f64 t3 t4)) b24 t1 t2 t3 t4 ∧ b24 ≠ BO := by
  have hn : W'.heap[W.heap.size]? = some (.cells #[.complex .f64 0 0, .complex .f64 0 0] 65) := Below.heap_some hb (Below.heap_some (Below.refl _ _).drew (newB _ _ rfl))
  have hb0 : Below W.heap.size W ((W.alloc (.cells #[.complex .f64 0 0, .complex .f64 0 0] 65)).drew) := (below1 W _).drew
  have hb1 : Below W.heap.size W W' := hb0.trans (hb.mono hb0.size)
  have hb2 : Below W.heap.size W ((W'.setCell ⟨W.heap.size, 0, none⟩ (.complex .f64 t1 t2)).setCell ⟨W.heap.size, 1, none⟩ (.complex .f64 t3 t4)) := put2 hb1 (Nat.le_refl _) _ _
  have hlt := (Array.getElem?_eq_some_iff.1 h.st.own).1
  refine ⟨_, rfl, rfl, h.next hb2, Below.heap_some hb2 hx, ?_, by omega⟩
  unfold Bx
  rw [setCell_block (setCell_block hn _)]
  rfl
end
theorem Bx.far {W : World} {b B x y z t i j : Nat} {v v' : Value} (h : Bx W b x y z t) (hne : b ≠ B) : Bx ((W.setCell ⟨B, i, none⟩ v).setCell ⟨B, j, none⟩ v') b x y z t := by
  unfold Bx
  rw [setCell_far hne, setCell_far hne]
  exact h
/-- The list under way. -/
def Now (e : En) (rs : List Rg) (qs : List Nat) (y x i : Nat) (l : List Rg) : Prop := ∀ t, l[t]? = if t < rs.length then some (curR e rs qs y x i t) else none
theorem Now.ext {e : En} {rs : List Rg} {qs : List Nat} {y x i y' x' i' : Nat} {l : List Rg} (h : Now e rs qs y x i l) (hc : ∀ t, t < rs.length → curR e rs qs y x i t = curR e rs qs y' x' i' t) : Now e rs qs y' x' i' l := fun t => by
  rw [h t]
  by_cases ht : t < rs.length
  · rw [if_pos ht, if_pos ht, hc t ht]
  · rw [if_neg ht, if_neg ht]
theorem Now.start (e : En) (rs : List Rg) (qs : List Nat) : Now e rs qs 0 0 0 (List.replicate rs.length nilR) := fun t => by
  rw [List.getElem?_replicate, cur_start]
  rfl
theorem Now.hit {e : En} (he : e ∈ gates) {rs : List Rg} {qs : List Nat} {y x i : Nat} {l : List Rg} {r : Rg} (h : Now e rs qs y x i l) (hx : rs[x]? = some r) (hd : qs.Nodup) (hl : qs.length = e.ar) (hp : pickN x qs = y) (hi : i < (e.f y).length) :
    Now e rs qs y x (i + 1) (l.set (putN x qs (e.f y)[i].row qs.length) (addR (curR e rs qs y x i (putN x qs (e.f y)[i].row qs.length)) (termR (e.f y)[i].turn (e.f y)[i].under e.ha r))) := fun t => by
  have hy : y < 2 ^ e.ar := by rw [← hl, ← hp]; exact pickN_lt _ _
  have hy8 : y < 8 := Nat.lt_of_lt_of_le hy (Nat.pow_le_pow_right (n := 2) (by decide) (ar_le e he).2)
  have hr := (rows_lt e he y hy _ (List.getElem_mem hi)).1
  rw [← hl] at hr
  have hh := cur_hit e rs hx hd hp hi hr (rows_nodup e he y hy8)
  have hlen : l.length = rs.length := by
    have h1 := h l.length
    have h2 := h rs.length
    rw [List.getElem?_eq_none (Nat.le_refl _)] at h1
    rw [if_neg (Nat.lt_irrefl _), List.getElem?_eq_none_iff] at h2
    by_cases h3 : l.length < rs.length
    · rw [if_pos h3] at h1; cases h1
    · omega
  rw [List.getElem?_set]
  by_cases ht : putN x qs (e.f y)[i].row qs.length = t
  · subst ht
    rw [if_pos rfl, hh.1, hlen]
  · rw [if_neg ht, h t, cur_miss e rs hd hi (fun e => ht e.symm)]
theorem hnow_apply {e : En} {rs : List Rg} {qs : List Nat} {N : Nat} {l : List Rg} (h : Now e rs qs N 0 0 l) (hN : 2 ^ e.ar = N) : l = applyR e rs qs := by
  refine List.ext_getElem? fun t => ?_
  rw [h t, applyR, List.getElem?_map, hN]
  by_cases ht : t < rs.length
  · rw [if_pos ht, List.getElem?_range ht, cur_start]
    rfl
  · rw [if_neg ht, List.getElem?_eq_none (by simpa using Nat.le_of_not_lt ht)]
    rfl
set_option maxRecDepth 100000 in
set_option maxHeartbeats 4000000 in
theorem apply_calls (e : En) (he : e ∈ gates) (n k M : Nat) (a : Option Addr) (c : Nat) (rs : List Rg) (aq : Option Addr) (cq : Nat) (qs : List Nat) (w : World)
    (hf : Formd n k rs) (hr : Rings w a c rs) (hi : Ints w aq cq qs) (hl : qs.length = e.ar) (hq : ∀ q ∈ qs, q < n) (hd : qs.Nodup) (hbd : ∀ r ∈ rs, Bd M r) (hM : M * 2 ^ e.ha < 2 ^ 53) (hk : k + e.ha ≤ 60) :
    Calls Tryz.prog 22 #[.agg #[.int .i64 n, .int .i64 k, .slice a rs.length c], .string e.name, .slice aq qs.length cq] w fun x w' =>
      ∃ B, x = .returned (.tuple #[.agg #[.int .i64 n, .int .i64 (formS (k + e.ha) (applyR e rs qs)).1, .slice (some ⟨B, 0, none⟩) rs.length rs.length], .int .i64 0]) ∧ OwnR w' B (formS (k + e.ha) (applyR e rs qs)).2 ∧ w.heap.size ≤ B ∧ Below w.heap.size w w' := by
  have HF := Lib.hid hf
  have HI := Lib.hid hr
  have HQ := Lib.hid hi
  have HS := Lib.hid (A0.start w n k a rs.length c)
  have hs9 := gates_size e he
  have har := ar_le e he
  have hmk := make_rings rs.length (by rw [hf.len]; exact pow_le hf.n10)
  have hb37 := bd37
  have hn10 := hf.n10
  have g52 := fun w h => placed_calls e he n k a rs.length c aq cq qs w h hl hq hd
  have g41 := fun w => halves_calls e he w
  have hha := ha_le e he
  obtain ⟨k2, hk2⟩ : ∃ k2, k + e.ha = k2 := ⟨_, rfl⟩
  rw [hk2] at hk ⊢
  have hkw : ((k : Int) + (e.ha : Int)) = (k2 : Int) := by omega
  clear hk2
  have HL := Lib.hid hl
  have HQN := Lib.hid hq
  have HD := Lib.hid hd
  have HBD := Lib.hid hbd
  have HM := Lib.hid hM
  obtain ⟨N, hN⟩ : ∃ N, 2 ^ qs.length = N := ⟨_, rfl⟩
  have hsh := pow_sh (n := qs.length) (by omega)
  have hsh2 := pow_sh2 (n := qs.length) (by omega)
  rw [hN] at hsh hsh2
  have HNA : Hid (2 ^ e.ar = N) := Lib.hid (by rw [← hl]; exact hN)
  have HNQ : Hid (2 ^ qs.length = N) := Lib.hid hN
  have hN8 : N ≤ 8 := by rw [← HNA.out]; exact Nat.pow_le_pow_right (n := 2) (by decide) har.2
  have hlc : (rs.length : Int) ≤ 1024 := by have := hf.len; have := pow_le hf.n10; omega
  have HP : Hid (Places qs) := Lib.hid ⟨fun q h => by have := hq q h; have := hf.n10; omega, hd⟩
  clear hf hr hi hl hq hd hbd hM hN
  go_enter Tryz.func22, Tryz.ntmps22
  go_wp2_with fail
  go_at_call 36
  refine (check_calls n k a c rs _ HF.out (HI.out.below HS.out.below)).mono ?_
  rintro x w1 ⟨rfl, hb⟩
  replace HS := Lib.hid (HS.out.next hb)
  clear hb
  have p0 := cell_at (i := 0) HS.out.par rfl
  have p1 := cell_at (i := 1) HS.out.par rfl
  have p2 := cell_at (i := 2) HS.out.par rfl
  go_wp2_with fail
  go_at_call 52
  refine (g52 _ (HQ.out.below HS.out.below)).mono ?_
  rintro x w2 ⟨rfl, hb⟩
  replace HS := Lib.hid (HS.out.next hb)
  clear hb p0 p1 p2
  go_wp2_with fail
  go_at_call 41
  refine (g41 _).mono ?_
  rintro x w3 ⟨rfl, hb⟩
  replace HS := Lib.hid (HS.out.next hb)
  clear hb
  have p0 := cell_at (i := 0) HS.out.par rfl
  have p1 := cell_at (i := 1) HS.out.par rfl
  have p2 := cell_at (i := 2) HS.out.par rfl
  have plt := block_lt p0
  go_upto_region 8 with fail
  go_cut [11] from 42 to 52 (fun v11 W => ∃ b11 BO, v11 = .pointer (some ⟨b11, 0, none⟩) ∧ ASt w n k a rs.length c k2 b11 BO rs.length (List.replicate rs.length nilR) W)
  case first =>
    go_region
    all_goals (go_wp2_with fail; go_meet)
    all_goals first | exact ASt.one HS.out (by simp) | exact ASt.two HS.out (by simp)
  case rest =>
    obtain ⟨b11, BO, rfl, hst⟩ := hcut
    clear HS p0 p1 p2 plt hmk hkw
    have HSH := Lib.hid hsh
    clear hsh hsh2
    have HS := Lib.hid hst
    clear hst
    go_wp2_with fail
    go_loopw [12, 13, 14, 15, 16, 17, 18, 19, 20, 21, 22, 23, 24, 25, 56] (fun _ _ _ _ _ _ _ _ _ _ _ _ _ _ k' W => ∃ (y : Nat) (l : List Rg), y ≤ N ∧ k' = .int .i64 y ∧ Now e rs qs y 0 0 l ∧ ASt w n k a rs.length c k2 b11 BO rs.length l W) (fun _ _ _ _ _ _ _ _ _ _ _ _ _ _ k' _ => N - (intOf k').toNat)
    case atStart => exact ⟨0, _, Nat.zero_le _, rfl, Now.start _ _ _, HS.out⟩
    case round =>
      obtain ⟨y, l, hy, rfl, hnow, hst⟩ := hrel
      clear HS
      have HS := Lib.hid hst
      have HN := Lib.hid hnow
      clear hst hnow
      by_cases hlt : y < N
      · have hltI : (y : Int) < wrap64 (2 ^ min qs.length 64) := by rw [HSH.out]; exact_mod_cast hlt
        have hfy := f_len e he y (by omega)
        have g42 := fun w => column_calls e he y (by rw [HNA.out]; exact hlt) w
        have p2 := cell_at (i := 2) HS.out.a0.par rfl
        go_wp2_with fail
        go_at_call 42
        refine (g42 _).mono ?_
        rintro x w4 ⟨a9, c9, a10, c10, rfl, h9, h10, hb⟩
        have HX : Hid (XSt w n k a rs.length c k2 b11 BO rs.length l a9 c9 a10 c10 (e.f y) w4) := Lib.hid ⟨HS.out.next hb, h9, h10⟩
        clear HS h9 h10 hb g42 p2
        have p2 := cell_at (i := 2) HX.out.st.a0.par rfl
        go_wp2_with fail
        go_loopw [16, 17, 18, 19, 20, 21, 22, 23, 24, 25, 69] (fun _ _ _ _ _ _ _ _ _ _ k' W => ∃ (x : Nat) (l : List Rg), x ≤ rs.length ∧ k' = .int .i64 x ∧ Now e rs qs y x 0 l ∧ XSt w n k a rs.length c k2 b11 BO rs.length l a9 c9 a10 c10 (e.f y) W) (fun _ _ _ _ _ _ _ _ _ _ k' _ => rs.length - (intOf k').toNat)
        case atStart => exact ⟨0, l, Nat.zero_le _, rfl, HN.out, HX.out⟩
        case round =>
          obtain ⟨x, l2, hx, rfl, hnow, hst⟩ := hrel
          clear HX HN p2
          have HX := Lib.hid hst
          have HN := Lib.hid hnow
          clear hst hnow
          by_cases hltx : x < rs.length
          · obtain ⟨bs, os, hbl, hidx, c0, c1⟩ := (HI.out.below HX.out.st.a0.below).at x hltx
            have hpt := HI.out.pt _ (List.getElem_mem hltx)
            have HBR := Lib.hid (HBD.out _ (List.getElem_mem hltx))
            have HRX : Hid (rs[x]? = some rs[x]) := Lib.hid (List.getElem?_eq_getElem hltx)
            have hx64 : x < 2 ^ 64 := by omega
            have hpl := pickN_lt x qs
            rw [HNQ.out] at hpl
            have heq : ∀ W, (binOp .eql 65 (.agg #[.complex .f64 (Fl rs[x].a) (Fl rs[x].b), .complex .f64 (Fl rs[x].c) (Fl rs[x].d)]) (.agg #[.complex .f64 0 0, .complex .f64 0 0])).run Tryz.prog W = .ok (.bool (decide (rs[x] = nilR))) W := fun W => eqlR rs[x] nilR hpt nilR_pt W
            have g53 := fun W h => pick_calls x aq cq qs W hx64 h HP.out (by rw [HL.out]; omega)
            have HG55 : Hid (∀ c ∈ e.f y, ∀ W, Calls Tryz.prog 55 #[ampV (turnR c.turn oneR) c.under, Value.agg #[.complex .f64 (Fl rs[x].a) (Fl rs[x].b), .complex .f64 (Fl rs[x].c) (Fl rs[x].d)], .int .i64 e.ha] W fun e' w' => e' = .returned (.tuple #[Value.agg #[.complex .f64 (Fl (termR c.turn c.under e.ha rs[x]).a) (Fl (termR c.turn c.under e.ha rs[x]).b), .complex .f64 (Fl (termR c.turn c.under e.ha rs[x]).c) (Fl (termR c.turn c.under e.ha rs[x]).d)], .int .i64 0]) ∧ Below W.heap.size W w') := Lib.hid fun c hc W => by
              have hr := rows_lt e he y (by rw [HNA.out]; exact hlt) c hc
              exact term_calls c.turn c.under e.ha rs[x] hr.2.1 hr.2.2 hpt (fun hu => (turn_bd (HBD.out _ (List.getElem_mem hltx)) c hu).pt HM.out) W
            generalize hrx : rs[x] = r at *
            clear hrx
            generalize Fl r.a = r1 at *
            generalize Fl r.b = r2 at *
            generalize Fl r.c = r3 at *
            generalize Fl r.d = r4 at *
            have HX2 := Lib.hid (HX.out.next (below1 wr (.cells #[.complex .f64 r1 r2, .complex .f64 r3 r4] 65)))
            have HB17 : Hid (Bx (wr.alloc (.cells #[.complex .f64 r1 r2, .complex .f64 r3 r4] 65)) wr.heap.size r1 r2 r3 r4) := Lib.hid (newB _ _ rfl)
            have HNE : Hid (wr.heap.size ≠ BO) := Lib.hid (by have := (Array.getElem?_eq_some_iff.1 HX.out.st.own).1; omega)
            go_wp2_with fail
            clear c0 c1 hidx hbl HX
            generalize wr.heap.size = b17 at *
            generalize wr.alloc (.cells #[.complex .f64 r1 r2, .complex .f64 r3 r4] 65) = W2 at *
            go_at_call 53
            refine (g53 _ (HQ.out.below HX2.out.st.a0.below)).mono ?_
            rintro e' w5 ⟨rfl, rfl⟩
            have q0 := cell_at (i := 0) HB17.out rfl
            have q1 := cell_at (i := 1) HB17.out rfl
            clear g53
            by_cases hp : pickN x qs = y
            · by_cases hnil : r = nilR
              · have HNUL : Hid (Now e rs qs y (x + 1) 0 l2) := Lib.hid (HN.out.ext fun t ht => cur_null e rs t (by rw [HRX.out, hnil]))
                have hne : ((pickN x qs : Int) != (y : Int)) = false := by simp [hp]
                have hdn : decide (r = nilR) = true := decide_eq_true hnil
                rw [hdn] at heq
                clear hdn hnil hp
                generalize pickN x qs = p at *
                go_wp2_with fail
                go_roundw
                case rel => exact ⟨x + 1, l2, by omega, by go_num, HNUL.out, HX2.out⟩
                case measure => simp [intOf]; omega
              · have HPK := Lib.hid hp
                have hne : ((pickN x qs : Int) != (y : Int)) = false := by simp [hp]
                have hdn : decide (r = nilR) = false := decide_eq_false hnil
                rw [hdn] at heq
                have HPX : Hid (∀ v, v < N → putN x qs v qs.length < rs.length) := Lib.hid fun v hv => by
                  rw [HF.out.len]
                  exact put_lt v (by rw [← HF.out.len]; exact hltx) HQN.out
                clear hdn hnil hp
                generalize hpe : pickN x qs = p at *
                have HPE := Lib.hid hpe
                clear hpe
                go_wp2_with fail
                clear q0 q1 heq hne
                go_loopw [20, 21, 22, 23, 24, 25, 92] (fun _ _ _ _ _ _ k' W => ∃ (i : Nat) (l : List Rg), i ≤ (e.f y).length ∧ k' = .int .i64 i ∧ Now e rs qs y x i l ∧ XSt w n k a rs.length c k2 b11 BO rs.length l a9 c9 a10 c10 (e.f y) W ∧ Bx W b17 r1 r2 r3 r4) (fun _ _ _ _ _ _ k' _ => (e.f y).length - (intOf k').toNat)
                case atStart => exact ⟨0, l2, Nat.zero_le _, rfl, HN.out, HX2.out, HB17.out⟩
                case round =>
                  obtain ⟨i, l3, hi, rfl, hnow, hst, hbx⟩ := hrel
                  clear HX2 HN HB17
                  have HX := Lib.hid hst
                  have HN := Lib.hid hnow
                  have HB17 := Lib.hid hbx
                  clear hst hnow hbx
                  by_cases hlti : i < (e.f y).length
                  · have hrl := rows_lt e he y (by rw [HNA.out]; exact hlt) _ (List.getElem_mem hlti)
                    have g55 := HG55.out _ (List.getElem_mem hlti)
                    obtain ⟨b9, o9, hb9, hidx9, d9⟩ := HX.out.rows.at i (by rw [List.length_map]; exact hlti)
                    rw [List.length_map] at hidx9
                    rw [List.getElem_map] at d9
                    have g54 := fun W h => put_calls x (e.f y)[i].row aq cq qs W hx64 h HP.out (by rw [HL.out]; omega) (by rw [HL.out]; exact hrl.1)
                    have HTT := Lib.hid (HPX.out (e.f y)[i].row (by rw [← HNA.out]; exact hrl.1))
                    have hpk := HPE.out.trans HPK.out
                    have HHIT := Lib.hid (HN.out.hit he HRX.out HD.out HL.out hpk hlti)
                    have HS0 : Hid (l3[putN x qs (e.f y)[i].row qs.length]? = some (curR e rs qs y x i (putN x qs (e.f y)[i].row qs.length))) := Lib.hid (by rw [HN.out, if_pos HTT.out])
                    have HCB := Lib.hid (cur_bd he (rs := rs) HL.out x i (putN x qs (e.f y)[i].row qs.length) HBD.out (y := y) (by rw [HNA.out]; exact hlt))
                    have HCB2 := Lib.hid (cur_bd he (rs := rs) HL.out x (i + 1) (putN x qs (e.f y)[i].row qs.length) HBD.out (y := y) (by rw [HNA.out]; exact hlt))
                    have HTB := Lib.hid (term_bd he HBR.out (e.f y)[i])
                    rw [(cur_hit e rs HRX.out HD.out hpk hlti (by rw [HL.out]; exact hrl.1) (rows_nodup e he y (by omega))).1] at HCB2
                    have hrow64 : (e.f y)[i].row < 2 ^ 64 := by have h1 := hrl.1; rw [HNA.out] at h1; omega
                    have HC : Hid ((e.f y)[i] = (e.f y)[i]) := Lib.hid rfl
                    clear hpk hrl
                    generalize putN x qs (e.f y)[i].row qs.length = tt at *
                    generalize curR e rs qs y x i tt = s at *
                    have g48 := fun W => radd_calls s _ (HCB.out.pt HM.out) (HTB.out.pt HM.out) (HCB2.out.pt HM.out) W
                    generalize hct : termR (e.f y)[i].turn (e.f y)[i].under e.ha r = t at *
                    generalize hca : addR s t = u at *
                    clear hct hca
                    generalize Fl t.a = t1 at *
                    generalize Fl t.b = t2 at *
                    generalize Fl t.c = t3 at *
                    generalize Fl t.d = t4 at *
                    have htt := HTT.out
                    go_wp2_with fail
                    go_at_call 54
                    refine (g54 _ (HQ.out.below HX.out.st.a0.below)).mono ?_
                    rintro e' w5 ⟨rfl, nd, rfl⟩
                    have HX2 := Lib.hid (HX.out.next (belowD (Below.refl _ wr) nd))
                    have HB2 : Hid (Bx (wr.drewN nd) b17 r1 r2 r3 r4) := Lib.hid (Below.heap_some (belowD (Below.refl _ wr) nd) HB17.out)
                    clear HX HB17 hidx9 d9 hb9 g54
                    generalize wr.drewN nd = W3 at *
                    obtain ⟨b10, o10, hb10, hidx10, f0, f1, f2⟩ := HX2.out.amps.at i hlti
                    have q0 := cell_at (i := 0) HB2.out rfl
                    have q1 := cell_at (i := 1) HB2.out rfl
                    unfold ampV at g55
                    have HCR : Hid ((e.f y)[i].r = turnR (e.f y)[i].turn oneR) := Lib.hid rfl
                    rw [HCR.out] at f0 f1
                    generalize turnR ((e.f y)[i].turn : Int) oneR = z at *
                    generalize (e.f y)[i].under = un at *
                    generalize Fl z.a = z1 at *
                    generalize Fl z.b = z2 at *
                    generalize Fl z.c = z3 at *
                    generalize Fl z.d = z4 at *
                    go_upto_region 22 with fail
                    go_cut [24, 25] from 106 to 115 (fun v24 v25 W => ∃ b24, v24 = .pointer (some ⟨b24, 0, none⟩) ∧ v25 = .int .i64 0 ∧ XSt w n k a rs.length c k2 b11 BO rs.length l3 a9 c9 a10 c10 (e.f y) W ∧ Bx W b17 r1 r2 r3 r4 ∧ Bx W b24 t1 t2 t3 t4 ∧ b24 ≠ BO)
                    case first =>
                      have kl := block_lt q0
                      go_region_with (first | (go_at_call 55; refine (g55 ((W3.alloc (.cells #[.complex .f64 0 0, .complex .f64 0 0] 65)).drew)).mono ?_; rintro e' w' ⟨rfl, hb⟩; obtain ⟨n0, n1, n2, n3⟩ := al_first hb) | (go_at_call 55; refine (g55 W3.drew).mono ?_; rintro e' w' ⟨rfl, hb⟩))
                      all_goals (go_wp2_with fail; go_meet)
                      all_goals first | exact XSt.fin1 HX2.out HB2.out hb | exact XSt.fin2 HX2.out HB2.out hb
                    case rest =>
                      clear HX2 HB2 q0 q1 hidx10 hb10 f0 f1 f2 g55 HCR
                      obtain ⟨b24, rfl, rfl, hst, hb17, hb24, hne24⟩ := hcut
                      have HX := Lib.hid hst
                      have HB17 := Lib.hid hb17
                      have HB24 := Lib.hid hb24
                      clear hst hb17 hb24
                      have hlen := HX.out.st.len
                      obtain ⟨d0, d1⟩ := HX.out.st.own.cells tt (by rw [hlen]; exact htt)
                      have hat : l3[tt]'(by rw [hlen]; exact htt) = s := by
                        have h1 := HS0.out
                        rw [List.getElem?_eq_getElem (by rw [hlen]; exact htt)] at h1
                        injection h1
                      rw [hat] at d0 d1
                      clear hat hlen
                      have HPUT : Hid (∀ W, XSt w n k a rs.length c k2 b11 BO rs.length l3 a9 c9 a10 c10 (e.f y) W → XSt w n k a rs.length c k2 b11 BO rs.length (l3.set tt u) a9 c9 a10 c10 (e.f y) ((W.setCell ⟨BO, tt * 2, none⟩ (.complex .f64 (Fl u.a) (Fl u.b))).setCell ⟨BO, tt * 2 + 1, none⟩ (.complex .f64 (Fl u.c) (Fl u.d)))) := Lib.hid fun W h => h.put tt htt u
                      have HCL : Hid (∀ W, XSt w n k a rs.length c k2 b11 BO rs.length l3 a9 c9 a10 c10 (e.f y) W → ∃ v0 v1, W.cell? ⟨BO, tt * 2, none⟩ = some v0 ∧ W.cell? ⟨BO, tt * 2 + 1, none⟩ = some v1) := Lib.hid fun W h => ⟨_, _, h.st.own.cells tt (by rw [h.st.len]; exact htt)⟩
                      have hidx := fun W => idx35 .u64 BO rs.length rs.length tt htt W
                      generalize Fl s.a = s1 at *
                      generalize Fl s.b = s2 at *
                      generalize Fl s.c = s3 at *
                      generalize Fl s.d = s4 at *
                      generalize Fl u.a = u1 at *
                      generalize Fl u.b = u2 at *
                      generalize Fl u.c = u3 at *
                      generalize Fl u.d = u4 at *
                      have q0 := cell_at (i := 0) HB24.out rfl
                      have q1 := cell_at (i := 1) HB24.out rfl
                      have o2 := cell_at (i := 2) HX.out.st.out rfl
                      go_upto_region 25 with fail
                      go_cut [25] from 120 to 133 (fun v25 W => v25 = .int .i64 0 ∧ XSt w n k a rs.length c k2 b11 BO rs.length (l3.set tt u) a9 c9 a10 c10 (e.f y) W ∧ Bx W b17 r1 r2 r3 r4)
                      case first =>
                        go_region_with (first | (go_at_call 48; refine (g48 _).mono ?_; rintro e' w' ⟨rfl, hb⟩; have HY := Lib.hid (HX.out.next ((Below.refl _ wc).drew.trans hb)); have HZ := Lib.hid (Below.heap_some ((Below.refl _ wc).drew.trans hb) HB17.out); have y2 := cell_at (i := 2) HY.out.st.out rfl; have yf : ∀ i, w'.frozen? ⟨BO, i, none⟩ = false := fun i => free_at HY.out.st.own; obtain ⟨v0, v1, z0, z1⟩ := HCL.out _ HY.out))
                        all_goals (go_wp2_with fail; go_meet)
                        all_goals exact ⟨rfl, HPUT.out _ HY.out, Bx.far HZ.out HNE.out⟩
                      case rest =>
                        obtain ⟨rfl, hst, hb17⟩ := hcut
                        clear HX HB17 q0 q1 o2 d0 d1
                        have HX := Lib.hid hst
                        have HB17 := Lib.hid hb17
                        clear hst hb17
                        go_wp2_with fail
                        go_roundw
                        case rel => exact ⟨i + 1, l3.set tt u, by omega, by go_num, HHIT.out, HX.out, HB17.out⟩
                        case measure => simp [intOf]; omega
                  · obtain rfl : i = (e.f y).length := by omega
                    have HN2 : Hid (Now e rs qs y (x + 1) 0 l3) := Lib.hid (HN.out.ext fun t ht => cur_row e rs qs y x t)
                    go_wp2_with fail
                    go_roundw
                    case rel => exact ⟨x + 1, l3, by omega, by go_num, HN2.out, HX.out⟩
                    case measure => simp [intOf]; omega
            · have HFAR : Hid (Now e rs qs y (x + 1) 0 l2) := Lib.hid (HN.out.ext fun t ht => cur_far e rs t HD.out (by rw [HNQ.out]; exact hlt) hp)
              generalize pickN x qs = p at *
              have hne : ((p : Int) != (y : Int)) = true := by simp; omega
              go_wp2_with fail
              go_roundw
              case rel => exact ⟨x + 1, l2, by omega, by go_num, HFAR.out, HX2.out⟩
              case measure => simp [intOf]; omega
          · obtain rfl : x = rs.length := by omega
            have HN2 : Hid (Now e rs qs (y + 1) 0 0 l2) := Lib.hid (HN.out.ext fun t ht => by
              rw [HF.out.len] at ht ⊢
              exact cur_end e rs ht HQN.out)
            have HS := Lib.hid HX.out.st
            clear HX HN
            go_wp2_with fail
            go_roundw
            case rel => exact ⟨y + 1, l2, by omega, by go_num, HN2.out, HS.out⟩
            case measure => simp [intOf]; omega
      · have hltI : wrap64 (2 ^ min qs.length 64) ≤ (y : Int) := by rw [HSH.out]; exact_mod_cast (by omega : N ≤ y)
        obtain rfl : y = N := by omega
        have HAP : Hid (l = applyR e rs qs) := Lib.hid (hnow_apply HN.out HNA.out)
        have HPT : Hid (∀ r ∈ l, r.Pt) := Lib.hid (by
          rw [HAP.out]
          intro r hr
          obtain ⟨t, ht, rfl⟩ := List.mem_map.1 hr
          exact (acc_bd he HL.out t HBD.out (Nat.le_refl _)).pt HM.out)
        have o0 := cell_at (i := 0) HS.out.out rfl
        have o1 := cell_at (i := 1) HS.out.out rfl
        have o2 := cell_at (i := 2) HS.out.out rfl
        have g56 := fun w h => formed_calls n k2 BO l w hk h HPT.out (by rw [HS.out.len]; omega)
        rw [HS.out.len] at g56
        rw [HAP.out] at g56
        have HOW : Hid (OwnR wr BO (applyR e rs qs)) := Lib.hid (by rw [← HAP.out]; exact HS.out.own)
        go_wp2_with fail
        go_at_call 56
        refine (g56 _ HOW.out).mono ?_
        rintro x w4 ⟨rfl, hown, hbut⟩
        have HO := Lib.hid hown
        have HB := Lib.hid hbut
        have HR0 : Hid (w4.heap[w.heap.size + 1]? = some (.cells #[.int .i64 0, .int .i64 0, .slice none 0 0] 37)) := Lib.hid (by
          have h1 := kinds_ne HS.out.a0.res HS.out.own (by decide)
          rw [hbut.block _ (Array.getElem?_eq_some_iff.1 HS.out.a0.res).1 h1]
          exact HS.out.a0.res)
        have HBL : Hid (Below w.heap.size w w4) := Lib.hid (hbut.above HS.out.a0.below HS.out.gt)
        clear hown hbut o0 o1 o2
        have r0 := cell_at (i := 0) HR0.out rfl
        have r1 := cell_at (i := 1) HR0.out rfl
        have r2 := cell_at (i := 2) HR0.out rfl
        have rf : ∀ i, w4.frozen? ⟨w.heap.size + 1, i, none⟩ = false := fun i => free_at HR0.out
        go_wp2_with fail
        refine bodyPost_ret (v := .tuple #[.agg #[.int .i64 n, .int .i64 (formS k2 (applyR e rs qs)).1, .slice (some ⟨BO, 0, none⟩) rs.length rs.length], .int .i64 0]) (by simp [results, Tryz.results22, go_sem, *]) rfl ⟨BO, rfl, ?_, HS.out.gt, ?_⟩
        · have hne := kinds_ne HR0.out HO.out (by decide)
          exact ((HO.out.far (Ne.symm hne)).far (Ne.symm hne)).far (Ne.symm hne)
        · exact put3 HBL.out (Nat.le_succ _) _ _ _
end Go.Proofs.YtlobgpgdknjhlaaGreat.WH
