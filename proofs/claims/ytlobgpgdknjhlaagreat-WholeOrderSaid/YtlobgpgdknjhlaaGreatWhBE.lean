/- Order: what it keeps. -/
import Derived.Test.YtlobgpgdknjhlaaGreatWhBC
import Derived.Test.YtlobgpgdknjhlaaGreatWhBP
namespace Go.Proofs.YtlobgpgdknjhlaaGreat.WH
open Go Go.RowKit Go.Proofs.YtlobgpgdknjhlaaGreat.F
set_option linter.unusedVariables false
set_option linter.unusedSimpArgs false
attribute [local go_sem] run_store_complex run_store_func
def boolV (x : Bool) : Value := .bool x
set_option maxRecDepth 100000 in
theorem make_bools (n : Nat) (hn : n ≤ 4096) (w : World) : (Instr.makeSlice 110 (.int .i64 (n : Int)) (.int .i64 (n : Int))).run Tryz.prog w = .ok (.slice (some ⟨w.heap.size, 0, none⟩) n n) (w.alloc (.cells (List.map boolV (List.replicate n false)).toArray 4)) := by
  obtain ⟨i, hi, hz0, hz1, hz2⟩ : ∃ i, Tryz.prog.info? 4 = some i ∧ i.zero = some (.bool false) ∧ i.size = 1 ∧ i.bytes = 1 := ⟨_, rfl, rfl, rfl, rfl⟩
  have h := run_makeSlice (P := Tryz.prog) w 110 4 i _ Tryz.underlying110 hi hz0 .i64 .i64 n n (by omega) (Int.le_refl _) (by rw [hz1]; omega) (by rw [hz2]; omega) (by omega)
  rw [hz1] at h
  simp only [Int.toNat_natCast, Nat.mul_one] at h
  rw [h]
  have e : madeCells (Value.bool false).cells n = (List.map boolV (List.replicate n false)).toArray := by
    refine Array.ext (by simp [madeCells]) fun j h1 h2 => ?_
    simp [madeCells, Value.cells, boolV, Nat.mod_one]
  rw [e]
theorem idx110 {g N k : Nat} (hk : k < N) (W : World) : (Instr.indexAt 110 (Value.slice (some ⟨g, 0, none⟩) N N) (.int .i64 k)).run Tryz.prog W = .ok (.pointer (some ⟨g, k, none⟩)) W := by
  have hs : ∀ W, (Go.sizeOf (Tryz.prog.elem 110)).run Tryz.prog W = .ok 1 W := fun _ => by kernel_rfl
  rw [run_indexAt_slice _ 110 _ _ _ _ _ (by kernel_rfl), if_pos ⟨by omega, by exact_mod_cast hk⟩, hs]
  simp [Result.andThen, Addr.add]
  omega
/-- What is marked as seen. -/
def snL (N : Nat) (o : List Nat) : List Bool := (List.range N).map fun i => decide (i ∈ o)
theorem snL_nil (N : Nat) : snL N [] = List.replicate N false := by
  refine List.ext_getElem (by simp [snL]) fun i h1 h2 => ?_
  simp [snL]
theorem snL_set (N : Nat) (o : List Nat) (x : Nat) : (snL N o).set x true = snL N (o ++ [x]) := by
  refine List.ext_getElem (by simp [snL]) fun i h1 h2 => ?_
  rw [List.getElem_set]
  by_cases h : x = i
  · subst h; simp [snL]
  · have : ¬ i = x := fun e => h e.symm
    simp [snL, h, this]
/-- The state of Order's walks: two boxes, and one block more. -/
structure OrdA (w : World) (box : Array Value) (BD : Nat) (o : Obj) (W : World) : Prop where
  below : Below w.heap.size w W
  b0 : W.heap[w.heap.size]? = some (.cells box 31)
  b4 : W.heap[w.heap.size + 1]? = some (.cells #[.int .i64 0, .int .i64 0, .slice none 0 0] 31)
  lo : w.heap.size + 1 < BD
  bd : W.heap[BD]? = some o
theorem OrdA.next {w W W' : World} {box : Array Value} {BD : Nat} {o : Obj} (h : OrdA w box BD o W) (hb : Below W.heap.size W W') : OrdA w box BD o W' :=
  ⟨h.below.trans (hb.mono h.below.size), Below.heap_some hb h.b0, Below.heap_some hb h.b4, h.lo, Below.heap_some hb h.bd⟩
theorem OrdA.ofBox {w W : World} {x : Array Value} (h : Box2 w x #[.int .i64 0, .int .i64 0, .slice none 0 0] 31 31 W) (o : Obj) : OrdA w x W.heap.size o (W.alloc o) :=
  ⟨h.below.trans ((below1 _ _).mono h.below.size), Below.heap_some (below1 _ _) h.b0, Below.heap_some (below1 _ _) h.b1, lt_of_heap h.b1, newB _ _ rfl⟩
theorem OrdA.newo {w W : World} {box : Array Value} {BD : Nat} {o o' : Obj} (h : OrdA w box BD o W) : OrdA w box W.heap.size o' (W.alloc o') :=
  ⟨h.below.trans ((below1 _ _).mono h.below.size), Below.heap_some (below1 _ _) h.b0, Below.heap_some (below1 _ _) h.b4, lt_of_heap h.b4, newB _ _ rfl⟩
theorem OrdA.sn_cell {w W : World} {box : Array Value} {SB N x : Nat} {o : List Nat} (h : OrdA w box SB (.cells ((snL N o).map boolV).toArray 4) W) (hx : x < N) (hn : x ∉ o) : W.cell? ⟨SB, x, none⟩ = some (.bool false) := by
  unfold World.cell?
  rw [h.bd]
  simp [snL, boolV, hx, hn]
theorem OrdA.sn_set {w W : World} {box : Array Value} {SB N : Nat} {o : List Nat} (h : OrdA w box SB (.cells ((snL N o).map boolV).toArray 4) W) (x : Nat) : OrdA w box SB (.cells ((snL N (o ++ [x])).map boolV).toArray 4) (W.setCell ⟨SB, x, none⟩ (.bool true)) := by
  have hlo := h.lo
  refine ⟨h.below.setCell (by show w.heap.size ≤ SB; omega) _, (setCell_far (by omega)).trans h.b0, (setCell_far (by omega)).trans h.b4, h.lo, ?_⟩
  rw [setCell_list h.bd, ← snL_set, List.map_set]
  simp [boolV]
theorem Ints.keep {w w' : World} {g c : Nat} {qs : List Nat} (h : Ints w (some ⟨g, 0, none⟩) c qs) (hk : w'.heap[g]? = w.heap[g]?) : Ints w' (some ⟨g, 0, none⟩) c qs := by
  refine { h with at_ := h.at_.imp id fun ⟨b', off, ha, hc⟩ => ⟨b', off, ha, fun j hj => ?_⟩ }
  have e : g = b' ∧ 0 = off := by simpa using ha
  obtain ⟨rfl, rfl⟩ := e
  exact (World.cell?_of_block (a := ⟨g, 0 + j, none⟩) hk).trans (hc j hj)
/-- The circuit under way. -/
structure OrdSt (w : World) (box : Array Value) (BD n b : Nat) (av : Option Addr) (cv : Nat) (ds : List Gop) (W : World) : Prop where
  st : OrdA w box BD (.cells #[.int .i64 n, .int .i64 b, .slice av ds.length cv] 31) W
  own : W.ownsRow (BD + 1) 28 7 (.slice av ds.length cv) ds.length (ds.flatMap Gop.cs)
  qs : ∀ d ∈ ds, ∃ g, d.aq = some ⟨g, 0, none⟩ ∧ BD < g ∧ g < W.heap.size ∧ (Value.slice av ds.length cv).ownBlock ≠ some g ∧ Ints W (some ⟨g, 0, none⟩) d.cq d.qs
theorem OrdSt.start {w W : World} {box : Array Value} {BD n b : Nat} {o : Obj} (h : OrdA w box BD o W) : OrdSt w box W.heap.size n b none 0 [] (W.alloc (.cells #[.int .i64 n, .int .i64 b, .slice none 0 0] 31)) :=
  ⟨h.newo, World.ownsRow_nil _ _ _ _, fun d hd => by simp at hd⟩
theorem OrdSt.next {w W W' : World} {box : Array Value} {BD n b cv : Nat} {av : Option Addr} {ds : List Gop} (h : OrdSt w box BD n b av cv ds W) (hb : Below W.heap.size W W') : OrdSt w box BD n b av cv ds W' :=
  ⟨h.st.next hb, own_keep h.own fun g cur _ hc => hb.block g (lt_of_heap hc), fun d hd => by
    obtain ⟨g, h1, h2, h3, h4, h5⟩ := h.qs d hd
    exact ⟨g, h1, h2, Nat.lt_of_lt_of_le h3 hb.size, h4, h5.below hb⟩⟩
theorem OrdSt.put {w W W' : World} {box : Array Value} {BD n b cv : Nat} {av : Option Addr} {ds : List Gop} (h : OrdSt w box BD n b av cv ds W) (d : Gop) {g : Nat} (h1 : d.aq = some ⟨g, 0, none⟩) (h2 : BD < g) (h3 : g < W.heap.size) (h4 : (Value.slice av ds.length cv).ownBlock ≠ some g) (h5 : Ints W (some ⟨g, 0, none⟩) d.cq d.qs)
    {av' : Option Addr} {cv' : Nat} (ho : W'.ownsRow (BD + 1) 28 7 (.slice av' (ds.length + 1) cv') (ds.length + 1) (ds.flatMap Gop.cs ++ d.cs)) (hg : W.grownBy W' (Value.slice av ds.length cv).ownBlock)
    (hf : (Value.slice av' (ds.length + 1) cv').ownBlock = (Value.slice av ds.length cv).ownBlock ∨ ∀ g, (Value.slice av' (ds.length + 1) cv').ownBlock = some g → W.heap.size ≤ g) :
    OrdSt w box BD n b av' cv' (ds ++ [d]) (W'.setCell ⟨BD, 2, none⟩ (.slice av' (ds.length + 1) cv')) := by
  have hl : (ds ++ [d]).length = ds.length + 1 := by simp
  have hlo := h.st.lo
  have other : ∀ k, k < BD + 1 → k < W.heap.size → W'.heap[k]? = W.heap[k]? := fun k h6 h7 => hg.block k h7 fun e => by
    have := (own_block h.own e.symm).1
    omega
  have hbl : Below w.heap.size w W' := h.st.below.trans ⟨hg.os, hg.tape, hg.output, hg.size, fun k hk => other k (by omega) (Nat.lt_of_lt_of_le hk h.st.below.size)⟩
  have hbd := (other BD (by omega) (lt_of_heap h.st.bd)).trans h.st.bd
  have keep : ∀ g, BD < g → g < W.heap.size → (Value.slice av ds.length cv).ownBlock ≠ some g → (W'.setCell ⟨BD, 2, none⟩ (.slice av' (ds.length + 1) cv')).heap[g]? = W.heap[g]? := fun g h6 h7 h8 => (setCell_far (by omega)).trans (hg.block g h7 fun e => h8 e.symm)
  have dist : ∀ g, g < W.heap.size → (Value.slice av ds.length cv).ownBlock ≠ some g → (Value.slice av' (ds.length + 1) cv').ownBlock ≠ some g := fun g h6 h7 => by
    rcases hf with h8 | h8
    · rw [h8]; exact h7
    · intro e
      have := h8 g e
      omega
  have hsz : W.heap.size ≤ (W'.setCell ⟨BD, 2, none⟩ (.slice av' (ds.length + 1) cv')).heap.size := by simpa using hg.size
  refine ⟨⟨hbl.setCell (by show w.heap.size ≤ BD; omega) _, (setCell_far (by omega)).trans ((other _ (by omega) (lt_of_heap h.st.b0)).trans h.st.b0), (setCell_far (by omega)).trans ((other _ (by omega) (lt_of_heap h.st.b4)).trans h.st.b4), h.st.lo, ?_⟩, ?_, fun d' hd' => ?_⟩
  · rw [setCell_list hbd, hl]
    rfl
  · rw [hl]
    have e : (ds ++ [d]).flatMap Gop.cs = ds.flatMap Gop.cs ++ d.cs := by simp
    rw [e]
    exact own_keep ho fun g cur hgb _ => setCell_far (by have := (own_block ho hgb).1; omega)
  · rw [hl]
    rcases List.mem_append.1 hd' with hd' | hd'
    · obtain ⟨g', k1, k2, k3, k4, k5⟩ := h.qs d' hd'
      exact ⟨g', k1, k2, by omega, dist g' k3 k4, k5.keep (keep g' k2 k3 k4)⟩
    · rw [List.mem_singleton] at hd'
      subst hd'
      exact ⟨g, h1, h2, by omega, dist g h3 h4, h5.keep (keep g h2 h3 h4)⟩
theorem OrdSt.after {w W W' : World} {box : Array Value} {BD n b cv : Nat} {av : Option Addr} {ds : List Gop} (h : OrdSt w box BD n b av cv ds W) (hg : W.grownBy W' (Value.slice av ds.length cv).ownBlock) : W'.heap[BD]? = some (.cells #[.int .i64 n, .int .i64 b, .slice av ds.length cv] 31) :=
  (hg.block BD (lt_of_heap h.st.bd) fun e => by
    have := (own_block h.own e.symm).1
    omega).trans h.st.bd
theorem OrdSt.ne {w W : World} {box : Array Value} {BD n b cv : Nat} {av : Option Addr} {ds : List Gop} (h : OrdSt w box BD n b av cv ds W) {g : Nat} (hg : W.heap.size ≤ g) : (Value.slice av ds.length cv).ownBlock ≠ some g := fun e => by
  obtain ⟨-, cur, hc⟩ := own_block h.own e
  have := lt_of_heap hc
  omega
theorem Ints.lt {w : World} {g c : Nat} {qs : List Nat} (h : Ints w (some ⟨g, 0, none⟩) c qs) (h0 : 0 < qs.length) : g < w.heap.size := by
  rcases h.at_ with rfl | ⟨b, off, e, hc⟩
  · simp at h0
  · have e2 : g = b ∧ 0 = off := by simpa using e
    obtain ⟨rfl, rfl⟩ := e2
    exact block_lt (hc 0 h0)
theorem cells_new (w : World) (us : List Value) (e : TypeId) (j : Nat) (u : Value) (h : us[j]? = some u) : (w.alloc (.cells us.toArray e)).cell? ⟨w.heap.size, j, none⟩ = some u := by
  have h2 : (w.alloc (.cells us.toArray e)).heap[w.heap.size]? = some (.cells us.toArray e) := newB _ _ rfl
  unfold World.cell?
  rw [h2]
  simpa using h
theorem cs_len (g : Gop) : g.cs.length = 7 := rfl
theorem cs_one (g : Gop) : ∀ u ∈ g.cs, u.oneCell' = true := by
  intro u hu
  simp only [Gop.cs, List.mem_cons, List.not_mem_nil, or_false] at hu
  rcases hu with rfl | rfl | rfl | rfl | rfl | rfl | rfl <;> rfl
theorem flat7 : ∀ (ds : List Gop) (j i : Nat) (hj : j < ds.length), i < 7 → (ds.flatMap Gop.cs)[j * 7 + i]? = (ds[j]).cs[i]?
  | [], j, i, hj, _ => by simp at hj
  | d :: ds, 0, i, _, hi => by
    rw [List.flatMap_cons, List.getElem?_append_left (by rw [cs_len]; omega)]
    simp
  | d :: ds, j + 1, i, hj, hi => by
    rw [List.flatMap_cons, List.getElem?_append_right (by rw [cs_len]; omega), cs_len, show (j + 1) * 7 + i - 7 = j * 7 + i by omega]
    exact flat7 ds j i (by simpa using hj) hi
theorem circ_own {W : World} {B n cv : Nat} {av : Option Addr} {ds : List Gop} (ho : W.ownsRow B 28 7 (.slice av ds.length cv) ds.length (ds.flatMap Gop.cs)) (hi : ∀ d ∈ ds, Ints W d.aq d.cq d.qs) (hok : ∀ d ∈ ds, d.Ok n) : Circ W n av cv ds := by
  rcases ho.2 with ⟨hv, h0⟩ | ⟨g, cap, cur, hv, hb, hg, hle, hm, hsz, htk⟩
  · simp only [Value.slice.injEq] at hv
    obtain ⟨-, -, rfl⟩ := hv
    have : ds = [] := List.eq_nil_of_length_eq_zero h0
    subst this
    exact ⟨by simp, by decide, hok, hi, .inl rfl⟩
  · simp only [Value.slice.injEq] at hv
    obtain ⟨rfl, -, rfl⟩ := hv
    unfold maxLen at hm
    refine ⟨hle, by omega, hok, hi, .inr ⟨g, 0, rfl, fun j hj => ?_⟩⟩
    have cell : ∀ i, i < 7 → W.cell? ⟨g, 0 + j * 7 + i, none⟩ = (ds[j]).cs[i]? := fun i hi => by
      rw [← flat7 ds j i hj hi, ← htk, List.getElem?_take_of_lt (by omega), Nat.zero_add]
      unfold World.cell?
      rw [hg]
      simp
    exact ⟨cell 0 (by omega), cell 1 (by omega), cell 2 (by omega), cell 3 (by omega), cell 4 (by omega), cell 5 (by omega), cell 6 (by omega)⟩
theorem OrdSt.circ_far {w W W' : World} {box : Array Value} {BD n b cv : Nat} {av : Option Addr} {ds : List Gop} (h : OrdSt w box BD n b av cv ds W) (hok : ∀ d ∈ ds, d.Ok n) (hk : ∀ g, BD < g → W'.heap[g]? = W.heap[g]?) : Circ W' n av cv ds :=
  circ_own (own_keep h.own fun g cur hg _ => hk g (own_block h.own hg).1) (fun d hd => by
    obtain ⟨g, k1, k2, k3, k4, k5⟩ := h.qs d hd
    rw [k1]; exact k5.keep (hk g k2)) hok
theorem ok_key {n : Nat} {gs ds : List Gop} {l : List Nat} (hk : ds.map keyG = (l.map (opG gs)).map keyG) (h : ∀ i ∈ l, (opG gs i).Ok n) : ∀ d ∈ ds, d.Ok n := fun d hd => by
  have h1 : keyG d ∈ (l.map (opG gs)).map keyG := by rw [← hk]; exact List.mem_map_of_mem hd
  obtain ⟨g, hg, e⟩ := List.mem_map.1 h1
  obtain ⟨i, hi, rfl⟩ := List.mem_map.1 hg
  obtain ⟨k1, k2, k3, k4⟩ := h i hi
  simp only [keyG, Prod.mk.injEq] at e
  obtain ⟨e1, e2⟩ := e
  exact ⟨e1 ▸ k1, by rw [← e1, ← e2]; exact k2, by rw [← e2]; exact k3, by rw [← e2]; exact k4⟩
set_option maxRecDepth 100000 in
/-- append of one operation, as one step of a region that draws. -/
theorem step_append_op {ops : Array Oper} {o : Oper} {a : Act} {K : Act → World → Prop} {Q : Exit → Act → World → Prop} {E : Prop} {w : World} {B n g : Nat} {v : Value} {xs us : List Value} (hgd : o.guard = none) (s x : Operand)
    (ho : o.op = .call { callee := .builtin .append, args := #[s, x], argTypes := #[29, 29] }) (hs : a.eval s = v) (hx : a.eval x = .slice (some ⟨g, 0, none⟩) 1 1) (hown : w.ownsRow B 28 7 v n xs) (hl : us.length = 7) (hu : ∀ (j : Nat) (u : Value), us[j]? = some u → w.cell? ⟨g, j, none⟩ = some u) (h1 : ∀ u ∈ us, u.oneCell' = true) (hn : n ≤ 5000) (hB : B ≤ w.heap.size)
    (hK : ∀ v' w', w'.ownsRow B 28 7 v' (n + 1) (xs ++ us) → w.grownBy w' v.ownBlock → (v'.ownBlock = v.ownBlock ∨ ∀ g, v'.ownBlock = some g → w.heap.size ≤ g) → K (a.put o.dst v') w') :
    if Region.wanted o (yielded ops a.tmps) = true then Oper.wp Tryz.prog o a w K Q else E := by
  have hw : Region.wanted o (yielded ops a.tmps) = true := by simp [Region.wanted, hgd]
  rw [if_pos hw]
  obtain ⟨i, z, hi, hz0, hz1, hz2, hz3⟩ : ∃ i z, Tryz.prog.info? 28 = some i ∧ i.zero = some z ∧ i.size = 7 ∧ i.bytes ≤ 100 ∧ z.cells.size = 7 := ⟨_, _, rfl, rfl, rfl, by decide +kernel, rfl⟩
  obtain ⟨v', w', hrun, r1, r2, r3⟩ := run_append_fresh w 29 o.type 28 i z 7 i.bytes Tryz.underlying29 hi hz0 hz1 rfl hz3 (by decide) B v n xs hown ⟨g, 0, none⟩ 1 1 us (by omega) (fun j u' h => by
    have hadd : (⟨g, 0, none⟩ : Addr).add j = ⟨g, j, none⟩ := by unfold Addr.add; split <;> simp_all
    rw [hadd]
    exact hu j u' h) h1 (by unfold maxLen; omega) (by have := Nat.mul_le_mul (show n + 1 ≤ 5001 by omega) hz2; omega) hB
  unfold Oper.wp
  simp [execOp, ho, resolve, invoke, builtin, hs, hx, hrun, Result.andThen]
  exact hK v' w' r1 r2 r3
end Go.Proofs.YtlobgpgdknjhlaaGreat.WH
