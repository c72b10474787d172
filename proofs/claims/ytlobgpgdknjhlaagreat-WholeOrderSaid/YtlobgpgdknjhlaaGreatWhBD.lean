/- Layers: walked. -/
import Derived.Test.YtlobgpgdknjhlaaGreatWhBC
import Derived.Test.YtlobgpgdknjhlaaGreatWhBP
import Derived.Deep.RegionWith
import Derived.Deep.CutRange
import Derived.Deep.RegionLaw
namespace Go.Proofs.YtlobgpgdknjhlaaGreat.WH
open Go Go.RowKit Go.Proofs.YtlobgpgdknjhlaaGreat.F
set_option linter.unusedVariables false
set_option linter.unusedSimpArgs false
attribute [local go_sem] run_store_complex run_store_func
def stN (st : List Nat) (k : Nat) : Nat := st[k]?.getD 0
/-- The steps and the layers, i operations done. -/
structure LInv (gs : List Gop) (i : Nat) (st : List Nat) (L : List (List Nat)) : Prop where
  len : st.length = gs.length
  lt : ∀ k, k < i → stN st k < L.length
  zero : ∀ k, i ≤ k → stN st k = 0
  rows : ∀ s (h : s < L.length), L[s] = (List.range i).filter (fun k => decide (stN st k = s))
  ord : ∀ j k, j < k → k < i → bdG gs j k = true → stN st j < stN st k
  ne : L.length ≤ i
/-- The state of the walk. -/
structure LaySt (w : World) (box : Array Value) (BS : Nat) (st : List Nat) (v : Value) (L : List (List Nat)) (W : World) : Prop where
  below : Below w.heap.size w W
  blk : W.heap[w.heap.size]? = some (.cells box 31)
  lo : w.heap.size < BS
  steps : W.heap[BS]? = some (.cells (st.map intV).toArray 3)
  lay : ∃ hs, Lay (BS + 1) W v hs L
theorem LInv.start (gs : List Gop) : LInv gs 0 (List.replicate gs.length 0) [] :=
  ⟨by simp, fun k h => absurd h (Nat.not_lt_zero _), fun k _ => by unfold stN; cases h : (List.replicate gs.length 0)[k]? with
    | none => rfl
    | some x => exact (List.mem_replicate.1 (List.mem_of_getElem? h)).2, fun s h => absurd h (Nat.not_lt_zero _), fun j k _ h => absurd h (Nat.not_lt_zero _), Nat.le_refl _⟩
theorem LaySt.start {w W : World} {box : Array Value} {l : List Nat} (h : BoxSt w box 31 W) : LaySt w box W.heap.size l (.slice none 0 0) [] (W.alloc (.cells (l.map intV).toArray 3)) :=
  ⟨h.below.trans ((below1 _ _).mono h.below.size), Below.heap_some (below1 _ _) h.blk, lt_of_heap h.blk, newB _ _ rfl, [], World.ownsRow_nil _ _ _ _, fun s h => absurd h (Nat.not_lt_zero _), fun s t h => absurd h (Nat.not_lt_zero _)⟩
theorem idx22 {g N k : Nat} (hk : k < N) (W : World) : (Instr.indexAt 22 (Value.slice (some ⟨g, 0, none⟩) N N) (.int .i64 k)).run Tryz.prog W = .ok (.pointer (some ⟨g, k, none⟩)) W := by
  have hs : ∀ W, (Go.sizeOf (Tryz.prog.elem 22)).run Tryz.prog W = .ok 1 W := fun _ => by kernel_rfl
  rw [run_indexAt_slice _ 22 _ _ _ _ _ (by kernel_rfl), if_pos ⟨by omega, by exact_mod_cast hk⟩, hs]
  simp [Result.andThen, Addr.add]
  omega
theorem step_cell {W : World} {BS : Nat} {st : List Nat} (h : W.heap[BS]? = some (.cells (st.map intV).toArray 3)) {k : Nat} (hk : k < st.length) : W.cell? ⟨BS, k, none⟩ = some (.int .i64 (stN st k : Nat)) := by
  unfold World.cell? stN
  rw [h]
  simp [hk, intV]
theorem stN_set_self {st : List Nat} {i : Nat} (hi : i < st.length) (s : Nat) : stN (st.set i s) i = s := by
  unfold stN
  simp [hi]
theorem stN_set_ne {st : List Nat} {i k : Nat} (hk : i ≠ k) (s : Nat) : stN (st.set i s) k = stN st k := by
  unfold stN
  rw [List.getElem?_set_ne hk]
theorem set_zero {st : List Nat} {i : Nat} (hi : i < st.length) (h : stN st i = 0) : st.set i 0 = st := by
  unfold stN at h
  rw [List.getElem?_eq_getElem hi] at h
  have e : st[i] = 0 := h
  rw [← e, List.set_getElem_self]
/-- The inner loop: i's step so far. -/
structure JInv (gs : List Gop) (i j s : Nat) (st : List Nat) (L : List (List Nat)) : Prop where
  le : s ≤ L.length
  ord : ∀ k, k < j → bdG gs k i = true → stN st k < s
/-- The state of the walk in the inner loop. -/
structure LaySj (w : World) (box : Array Value) (BS pb : Nat) (ob : Array Value) (st : List Nat) (v : Value) (L : List (List Nat)) (W : World) : Prop where
  st : LaySt w box BS st v L W
  op : W.heap[pb]? = some (.cells ob 28)
  gt : BS < pb
theorem LaySt.next {w W W' : World} {box : Array Value} {BS : Nat} {st : List Nat} {v : Value} {L : List (List Nat)} (h : LaySt w box BS st v L W) (hb : Below W.heap.size W W') : LaySt w box BS st v L W' :=
  ⟨h.below.trans (hb.mono h.below.size), Below.heap_some hb h.blk, h.lo, Below.heap_some hb h.steps, h.lay.elim fun hs h => ⟨hs, h.below hb⟩⟩
theorem LaySj.next {w W W' : World} {box ob : Array Value} {BS pb : Nat} {st : List Nat} {v : Value} {L : List (List Nat)} (h : LaySj w box BS pb ob st v L W) (hb : Below W.heap.size W W') : LaySj w box BS pb ob st v L W' :=
  ⟨h.st.next hb, Below.heap_some hb h.op, h.gt⟩
theorem LaySt.set {w W : World} {box : Array Value} {BS : Nat} {st : List Nat} {v : Value} {L : List (List Nat)} (h : LaySt w box BS st v L W) (i s : Nat) : LaySt w box BS (st.set i s) v L (W.setCell ⟨BS, i, none⟩ (.int .i64 (s : Nat))) := by
  have hlo := h.lo
  refine ⟨h.below.setCell (by show w.heap.size ≤ BS; omega) _, (setCell_far (by omega)).trans h.blk, h.lo, ?_, h.lay.elim fun hs h => ⟨hs, h.keep fun g hg _ => setCell_far (by omega)⟩⟩
  rw [setCell_list h.steps, List.map_set]
  simp [intV]
theorem LaySj.set {w W : World} {box ob : Array Value} {BS pb : Nat} {st : List Nat} {v : Value} {L : List (List Nat)} (h : LaySj w box BS pb ob st v L W) (i s : Nat) : LaySj w box BS pb ob (st.set i s) v L (W.setCell ⟨BS, i, none⟩ (.int .i64 (s : Nat))) :=
  ⟨h.st.set i s, (setCell_far (by have := h.gt; omega)).trans h.op, h.gt⟩
theorem LaySj.again {w W : World} {box ob : Array Value} {BS pb i s : Nat} {st : List Nat} {v : Value} {L : List (List Nat)} (h : LaySj w box BS pb ob (st.set i s) v L W) (t : Nat) : LaySj w box BS pb ob (st.set i t) v L (W.setCell ⟨BS, i, none⟩ (.int .i64 (t : Nat))) := by
  have h1 := h.set i t
  rw [List.set_set] at h1
  exact h1
theorem LInv.core {gs : List Gop} {i s : Nat} {st : List Nat} {M : List (List Nat)} (len : st.length = gs.length) (lt : ∀ k, k < i → stN st k < M.length) (zero : ∀ k, i ≤ k → stN st k = 0)
    (rows : ∀ t (h : t < M.length), M[t] = (List.range i).filter (fun k => decide (stN st k = t))) (ord : ∀ j k, j < k → k < i → bdG gs j k = true → stN st j < stN st k) (ne : M.length ≤ i + 1)
    (hi : i < gs.length) (hs : s < M.length) (hord : ∀ k, k < i → bdG gs k i = true → stN st k < s) : LInv gs (i + 1) (st.set i s) (M.set s (M[s] ++ [i])) := by
  have hi' : i < st.length := by omega
  have hf : ∀ t, (List.range i).filter (fun k => decide (stN (st.set i s) k = t)) = (List.range i).filter (fun k => decide (stN st k = t)) := fun t =>
    List.filter_congr fun k hk => by rw [stN_set_ne (by have := List.mem_range.1 hk; omega)]
  refine ⟨by rw [List.length_set]; exact len, fun k hk => ?_, fun k hk => ?_, fun t ht => ?_, fun j k hjk hk hb => ?_, by rw [List.length_set]; exact ne⟩
  · rw [List.length_set]
    by_cases e : k = i
    · subst e; rw [stN_set_self hi']; exact hs
    · rw [stN_set_ne (by omega)]; exact lt k (by omega)
  · rw [stN_set_ne (by omega)]; exact zero k (by omega)
  · have ht' : t < M.length := by simpa using ht
    rw [List.range_succ, List.filter_append, hf]
    by_cases e : t = s
    · subst e
      rw [List.getElem_set_self, rows t ht']
      simp [stN_set_self hi']
    · rw [List.getElem_set_ne (Ne.symm e), rows t ht']
      have : ¬ s = t := fun h => e h.symm
      simp [stN_set_self hi', this]
  · by_cases e : k = i
    · subst e
      rw [stN_set_self hi', stN_set_ne (by omega)]
      exact hord j hjk hb
    · rw [stN_set_ne (by omega), stN_set_ne (by omega)]
      exact ord j k hjk (by omega) hb
theorem LInv.old {gs : List Gop} {i s : Nat} {st : List Nat} {L : List (List Nat)} (h : LInv gs i st L) (hi : i < gs.length) (hj : JInv gs i i s st L) (hs : s < L.length) : LInv gs (i + 1) (st.set i s) (L.set s (L[s] ++ [i])) :=
  LInv.core h.len h.lt h.zero h.rows h.ord (by have := h.ne; omega) hi hs hj.ord
theorem LInv.new {gs : List Gop} {i : Nat} {st : List Nat} {L : List (List Nat)} (h : LInv gs i st L) (hi : i < gs.length) (hj : JInv gs i i L.length st L) (hs : L.length < (L ++ [[]]).length) : LInv gs (i + 1) (st.set i L.length) ((L ++ [[]]).set L.length ((L ++ [[]])[L.length] ++ [i])) :=
  LInv.core h.len (fun k hk => by have := h.lt k hk; simp; omega) h.zero (fun t ht => by
    by_cases e : t < L.length
    · rw [List.getElem_append_left e]; exact h.rows t e
    · have e2 : t = L.length := by simp at ht; omega
      subst e2
      rw [List.getElem_append_right (Nat.le_refl _)]
      simp only [Nat.sub_self, List.getElem_cons_zero]
      symm
      refine List.filter_eq_nil_iff.2 fun k hk => ?_
      have := h.lt k (List.mem_range.1 hk)
      simp; omega) h.ord (by have := h.ne; simp; omega) hi hs hj.ord
set_option maxRecDepth 100000 in
/-- append of one number, as one step of a region that draws. -/
theorem step_append_one {ops : Array Oper} {o : Oper} {a : Act} {K : Act → World → Prop} {Q : Exit → Act → World → Prop} {E : Prop} {w : World} {B n g : Nat} {v u : Value} {xs : List Value} (hgd : o.guard = none) (s x : Operand)
    (ho : o.op = .call { callee := .builtin .append, args := #[s, x], argTypes := #[22, 22] }) (hs : a.eval s = v) (hx : a.eval x = .slice (some ⟨g, 0, none⟩) 1 1) (hown : w.ownsRow B 3 1 v n xs) (hu : w.cell? ⟨g, 0, none⟩ = some u) (h1 : u.oneCell' = true) (hn : n ≤ 5000) (hB : B ≤ w.heap.size)
    (hK : ∀ v' w', w'.ownsRow B 3 1 v' (n + 1) (xs ++ [u]) → w.grownBy w' v.ownBlock → (v'.ownBlock = v.ownBlock ∨ ∀ g, v'.ownBlock = some g → w.heap.size ≤ g) → K (a.put o.dst v') w') :
    if Region.wanted o (yielded ops a.tmps) = true then Oper.wp Tryz.prog o a w K Q else E := by
  have hw : Region.wanted o (yielded ops a.tmps) = true := by simp [Region.wanted, hgd]
  rw [if_pos hw]
  obtain ⟨i, hi, hz0, hz1, hz2⟩ : ∃ i, Tryz.prog.info? 3 = some i ∧ i.zero = some (.int .i64 0) ∧ i.size = 1 ∧ i.bytes = 8 := ⟨_, rfl, rfl, rfl, rfl⟩
  obtain ⟨v', w', hrun, r1, r2, r3⟩ := run_append_fresh w 22 o.type 3 i _ 1 8 Tryz.underlying22 hi hz0 hz1 hz2 rfl (by decide) B v n xs hown ⟨g, 0, none⟩ 1 1 [u] rfl (fun j u' h => by
    cases j with
    | zero => simp at h; subst h; rw [show ((⟨g, 0, none⟩ : Addr).add 0) = ⟨g, 0, none⟩ from by simp [Addr.add]]; exact hu
    | succ j => simp at h) (fun u' h => by simp at h; subst h; exact h1) (by unfold maxLen; omega) (by omega) hB
  unfold Oper.wp
  simp [execOp, ho, resolve, invoke, builtin, hs, hx, hrun, Result.andThen]
  exact hK v' w' r1 r2 r3
theorem Lay.head {B s : Nat} {W : World} {v : Value} {hs : List Value} {L : List (List Nat)} (h : Lay B W v hs L) (h1 : s < L.length) : ∃ gv cap, ∃ cur : Array Value, ∃ h2 : s < hs.length, v = .slice (some ⟨gv, 0, none⟩) L.length cap ∧ B ≤ gv ∧ W.heap[gv]? = some (.cells cur 22) ∧ W.cell? ⟨gv, s, none⟩ = some hs[s] := by
  have hl := h.len
  have h2 : s < hs.length := by omega
  rcases h.own.2 with ⟨-, h9⟩ | ⟨g, cap, cur, rfl, hb, hg, -, -, -, htk⟩
  · omega
  · refine ⟨g, cap, cur, h2, rfl, hb, hg, ?_⟩
    have h3 : (cur.toList.take (L.length * 1))[s]? = some hs[s] := by rw [htk]; simp [h2]
    rw [List.getElem?_take_of_lt (by omega)] at h3
    unfold World.cell?
    rw [hg]
    simpa using h3
theorem idx55 {g N c k : Nat} (hk : k < N) (W : World) : (Instr.indexAt 55 (Value.slice (some ⟨g, 0, none⟩) N c) (.int .i64 k)).run Tryz.prog W = .ok (.pointer (some ⟨g, k, none⟩)) W := by
  have hs : ∀ W, (Go.sizeOf (Tryz.prog.elem 55)).run Tryz.prog W = .ok 1 W := fun _ => by kernel_rfl
  rw [run_indexAt_slice _ 55 _ _ _ _ _ (by kernel_rfl), if_pos ⟨by omega, by exact_mod_cast hk⟩, hs]
  simp [Result.andThen, Addr.add]
  omega
/-- Behind the append to row s: what has stayed. -/
structure Aft (W W' : World) (B : Nat) : Prop where
  other : ∀ g, g < B → g < W.heap.size → W'.heap[g]? = W.heap[g]?
  kind : ∀ (g : Nat) (cur : Array Value) (e : TypeId), W.heap[g]? = some (.cells cur e) → e ≠ 3 → W'.heap[g]? = some (.cells cur e)
theorem aft {W W' : World} {B n : Nat} {v : Value} {xs : List Value} (h : W.ownsRow B 3 1 v n xs) (hg : W.grownBy W' v.ownBlock) : Aft W W' B :=
  ⟨fun g hb hl => hg.block g hl fun e => by have := (own_block h e.symm).1; omega, fun g cur e hc hne => (hg.block g (lt_of_heap hc) fun e2 => by
    obtain ⟨-, cur', hc'⟩ := own_block h e2.symm
    rw [hc] at hc'
    simp at hc'
    exact hne hc'.2).trans hc⟩
theorem LaySt.put {w W W' : World} {box : Array Value} {BS gv cap s i : Nat} {st : List Nat} {hs : List Value} {M : List (List Nat)} {v' : Value} (h : LaySt w box BS st (.slice (some ⟨gv, 0, none⟩) M.length cap) M W) (hl : Lay (BS + 1) W (.slice (some ⟨gv, 0, none⟩) M.length cap) hs M)
    (h1 : s < M.length) (h2 : s < hs.length) (ho : W'.ownsRow (BS + 1) 3 1 v' (M[s].length + 1) (M[s].map intV ++ [intV i])) (hg : W.grownBy W' hs[s].ownBlock) (hf : v'.ownBlock = hs[s].ownBlock ∨ ∀ g, v'.ownBlock = some g → W.heap.size ≤ g) :
    LaySt w box BS st (.slice (some ⟨gv, 0, none⟩) M.length cap) (M.set s (M[s] ++ [i])) (W'.setCell ⟨gv, s, none⟩ v') := by
  have ha := aft (hl.row s h1 h2) hg
  have hlo := h.lo
  obtain ⟨g', cap', cur, h2', hv, hb, -, -⟩ := hl.head h1
  simp only [Value.slice.injEq, Option.some.injEq, Addr.mk.injEq] at hv
  obtain ⟨⟨rfl, -⟩, -⟩ := hv
  have hbl : Below w.heap.size W W' := ⟨hg.os, hg.tape, hg.output, hg.size, fun k hk => ha.other k (by omega) (Nat.lt_of_lt_of_le hk h.below.size)⟩
  refine ⟨(h.below.trans hbl).setCell (by show w.heap.size ≤ gv; omega) _, (setCell_far (by omega)).trans ((ha.other _ (by omega) (lt_of_heap h.blk)).trans h.blk), h.lo, (setCell_far (by omega)).trans ((ha.other _ (by omega) (lt_of_heap h.steps)).trans h.steps), hs.set s v', ?_⟩
  exact hl.put h1 h2 ho hg hf
theorem Lay.mono {B B' : Nat} {W : World} {v : Value} {hs : List Value} {L : List (List Nat)} (h : Lay B W v hs L) (hb : B' ≤ B) : Lay B' W v hs L :=
  ⟨own_mono h.own hb, fun s h1 h2 => own_mono (h.row s h1 h2) hb, h.ne⟩
theorem LInv.row_le {gs : List Gop} {i s : Nat} {st : List Nat} {L : List (List Nat)} (h : LInv gs i st L) (hl : gs.length ≤ 4096) (hi : i ≤ gs.length) (hs : s < L.length) : (L[s]).length ≤ 5000 := by
  rw [h.rows s hs]
  refine Nat.le_trans (List.length_filter_le _ _) ?_
  rw [List.length_range]
  omega
theorem LaySt.push {w W W' : World} {box : Array Value} {BS : Nat} {st : List Nat} {hs : List Value} {L : List (List Nat)} {v v' : Value} (h : LaySt w box BS st v L W) (hl : Lay (BS + 1) W v hs L)
    (h2 : W'.ownsRow (BS + 1) 22 1 v' (L.length + 1) (hs ++ [.slice none 0 0])) (hg : W.grownBy W' v.ownBlock) : LaySt w box BS st v' (L ++ [[]]) W' := by
  have hlo := h.lo
  have ho : ∀ g, g < BS + 1 → g < W.heap.size → W'.heap[g]? = W.heap[g]? := fun g h3 h4 => hg.block g h4 fun e => by
    have := (own_block hl.own e.symm).1
    omega
  exact ⟨h.below.trans ⟨hg.os, hg.tape, hg.output, hg.size, fun k hk => ho k (by omega) (Nat.lt_of_lt_of_le hk h.below.size)⟩, (ho _ (by omega) (lt_of_heap h.blk)).trans h.blk, h.lo, (ho _ (by omega) (lt_of_heap h.steps)).trans h.steps, _, hl.push h2 hg⟩
set_option maxRecDepth 100000 in
set_option maxHeartbeats 4000000 in
theorem layers_calls (n b : Nat) (hn : n ≤ 10) (hb : b ≤ 64) (a : Option Addr) (c : Nat) (gs : List Gop) (w : World) (h : Circ w n a c gs) (hl : gs.length ≤ 4096) (hs : sumH gs ≤ 36) : Calls Tryz.prog 19 #[.agg #[.int .i64 n, .int .i64 b, .slice a gs.length c]] w fun e w' => ∃ v L st, e = .returned (.tuple #[v, .int .i64 0]) ∧ LInv gs gs.length st L ∧ (∃ hs, Lay (w.heap.size + 1) w' v hs L) ∧ Below w.heap.size w w' := by
  have HC := Lib.hid h
  have HS := Lib.hid (BoxSt.start w #[.int .i64 n, .int .i64 b, .slice a gs.length c] 31)
  have hlc : (gs.length : Int) ≤ 4096 := by omega
  have hmk := fun W => make_ints gs.length hl W
  have g37 := fun w h => ccheck_calls n b (by omega) hb a c gs w h hl hs
  clear h
  go_enter Tryz.func19, Tryz.ntmps19
  go_wp2_with fail
  generalize w.alloc (.cells #[.int .i64 n, .int .i64 b, .slice a gs.length c] 31) = W1 at *
  have p0 := cell_at (i := 0) HS.out.blk rfl
  have p1 := cell_at (i := 1) HS.out.blk rfl
  have p2 := cell_at (i := 2) HS.out.blk rfl
  go_wp2_with fail
  go_at_call 37
  refine (g37 _ (HC.out.below HS.out.below)).mono ?_
  rintro x w2 ⟨rfl, hb2⟩
  have HS2 := Lib.hid (HS.out.next hb2)
  clear hb2 HS p0 p1 p2
  have p0 := cell_at (i := 0) HS2.out.blk rfl
  have p1 := cell_at (i := 1) HS2.out.blk rfl
  have p2 := cell_at (i := 2) HS2.out.blk rfl
  have plt := block_lt p0
  go_wp2_with fail
  have HI := Lib.hid (LInv.start gs)
  have HL := Lib.hid (LaySt.start (l := List.replicate gs.length 0) HS2.out)
  clear HS2 p0 p1 p2 plt
  generalize w2.heap.size = BS at *
  go_loopw [6, 26] (fun v k W => ∃ (i : Nat) (st : List Nat) (L : List (List Nat)), i ≤ gs.length ∧ k = .int .i64 i ∧ LInv gs i st L ∧ LaySt w #[.int .i64 n, .int .i64 b, .slice a gs.length c] BS st v L W) (fun _ k _ => gs.length - (intOf k).toNat)
  case atStart => exact ⟨0, _, _, Nat.zero_le _, rfl, HI.out, by have h := HL.out; simpa using h⟩
  case round =>
    clear HI HL
    obtain ⟨i, st, L, hi, rfl, hinv, hst⟩ := hrel
    have HI := Lib.hid hinv
    have HL := Lib.hid hst
    clear hinv hst
    by_cases hlt : i < gs.length
    · obtain ⟨bo, oo, hbl, hidx, c0, c1, c2, c3, c4, c5, c6⟩ := (HC.out.below HL.out.below).at i hlt
      have HCI := Lib.hid (And.intro (HC.out.ok _ (List.getElem_mem hlt)) (HC.out.ints _ (List.getElem_mem hlt)))
      generalize hg : gs[i] = g at *
      have HG := Lib.hid hg
      clear hg
      have HJ0 : Hid (JInv gs i 0 0 st L) := Lib.hid ⟨Nat.zero_le _, fun k h => absurd h (Nat.not_lt_zero _)⟩
      go_wp2_with fail
      have HS0 : Hid (LaySj w #[.int .i64 n, .int .i64 b, .slice a gs.length c] BS wr.heap.size #[.int .i64 1, .string g.e.name, .slice g.aq g.qs.length g.cq, .int .i64 0, .bool false, .int .u64 0, .int .u64 0] (st.set i 0) u6 L (wr.alloc (.cells #[.int .i64 1, .string g.e.name, .slice g.aq g.qs.length g.cq, .int .i64 0, .bool false, .int .u64 0, .int .u64 0] 28))) :=
        Lib.hid ⟨by rw [set_zero (by rw [HI.out.len]; exact hlt) (HI.out.zero i (Nat.le_refl _))]; exact HL.out.next (below1 _ _), newB _ _ rfl, lt_of_heap HL.out.steps⟩
      have HILT : Hid (i < st.length) := Lib.hid (by rw [HI.out.len]; exact hlt)
      have hsz : BS < wr.heap.size := lt_of_heap HL.out.steps
      clear c0 c1 c2 c3 c4 c5 c6 hidx HL
      generalize wr.alloc (.cells #[.int .i64 1, .string g.e.name, .slice g.aq g.qs.length g.cq, .int .i64 0, .bool false, .int .u64 0, .int .u64 0] 28) = W3 at *
      generalize wr.heap.size = pb at *
      go_loopw [32] (fun k W => ∃ (j s : Nat), j ≤ i ∧ k = .int .i64 j ∧ JInv gs i j s st L ∧ LaySj w #[.int .i64 n, .int .i64 b, .slice a gs.length c] BS pb #[.int .i64 1, .string g.e.name, .slice g.aq g.qs.length g.cq, .int .i64 0, .bool false, .int .u64 0, .int .u64 0] (st.set i s) u6 L W) (fun k _ => i - (intOf k).toNat)
      case atStart => exact ⟨0, 0, Nat.zero_le _, rfl, HJ0.out, HS0.out⟩
      case round =>
        clear HJ0 HS0
        obtain ⟨j, s, hj, rfl, hji, hsj⟩ := hrel
        have HJ := Lib.hid hji
        have HS := Lib.hid hsj
        clear hji hsj
        by_cases hjlt : j < i
        · have hji : j < gs.length := by omega
          obtain ⟨bj, oj, hblj, hidxj, d0, d1, d2, d3, d4, d5, d6⟩ := (HC.out.below HS.out.st.below).at j hji
          have e0 := cell_at (i := 0) HS.out.op rfl
          have e1 := cell_at (i := 1) HS.out.op rfl
          have e2 := cell_at (i := 2) HS.out.op rfl
          have e3 := cell_at (i := 3) HS.out.op rfl
          have e4 := cell_at (i := 4) HS.out.op rfl
          have e5 := cell_at (i := 5) HS.out.op rfl
          have e6 := cell_at (i := 6) HS.out.op rfl
          have p2 := cell_at (i := 2) HS.out.st.blk rfl
          have hlen : (st.set i s).length = gs.length := by rw [List.length_set]; exact HI.out.len
          have sj := step_cell HS.out.st.steps (k := j) (by rw [hlen]; exact hji)
          have si := step_cell HS.out.st.steps (k := i) (by rw [hlen]; exact hlt)
          rw [stN_set_ne (by omega)] at sj
          rw [stN_set_self HILT.out] at si
          have ij := idx22 (g := BS) hji
          have ii := idx22 (g := BS) hlt
          have HGJ := Lib.hid (And.intro (HC.out.ok _ (List.getElem_mem hji)) (HC.out.ints _ (List.getElem_mem hji)))
          have hq : ∀ q ∈ g.qs, q < 64 := fun q h => by have := HCI.out.1.lt q h; omega
          have hqj : ∀ q ∈ gs[j].qs, q < 64 := fun q h => by have := HGJ.out.1.lt q h; omega
          have hbd := bdG_of hji hlt
          rw [HG.out] at hbd
          have g50 := fun w (h1 : Ints w (gs[j]'hji).aq (gs[j]'hji).cq (gs[j]'hji).qs) (h2 : Ints w g.aq g.cq g.qs) => bound_calls gs[j].e.name g.e.name gs[j].aq g.aq gs[j].cq g.cq gs[j].qs g.qs w h1 h2 hqj hq
          rw [← hbd] at g50
          have HBJ : Hid (∀ r : Bool, bdG gs j i = r → True) := Lib.hid fun _ _ => trivial
          have HSJ : Hid (stN st j = stN st j) := Lib.hid rfl
          clear hlen hq hqj hbd
          have hslt : stN st j < L.length := HI.out.lt j hjlt
          have hLe := HI.out.ne
          have HJN : Hid (stN st j < s ∨ bdG gs j i = false → JInv gs i (j + 1) s st L) := Lib.hid fun h => ⟨HJ.out.le, fun k hk hb => by
            by_cases e : k = j
            · subst e
              rcases h with h | h
              · exact h
              · rw [hb] at h; cases h
            · exact HJ.out.ord k (by omega) hb⟩
          have HJY : Hid (s ≤ stN st j → JInv gs i (j + 1) (stN st j + 1) st L) := Lib.hid fun h => ⟨hslt, fun k hk hb => by
            by_cases e : k = j
            · subst e; omega
            · have := HJ.out.ord k (by omega) hb; omega⟩
          generalize hsjv : stN st j = sjv at *
          generalize hbdv : bdG gs j i = bdv at *
          generalize gs[j] = gj at *
          by_cases hge : s ≤ sjv
          · have hd : decide ((s : Int) ≤ (sjv : Int)) = true := decide_eq_true (by omega)
            go_wp2_with fail
            go_still_tail 16, (by kernel_rfl)
            change wpList _ _ _ _ _ wr.drew
            have HS2 := Lib.hid (HS.out.next (Below.refl _ wr).drew)
            go_wp2_with fail
            go_at_call 50
            refine (g50 _ (HGJ.out.2.below HS2.out.st.below) (HCI.out.2.below HS2.out.st.below)).mono ?_
            rintro e wA ⟨rfl, hA⟩
            have HS3 := Lib.hid (HS2.out.next hA)
            clear hA HS2 HS d0 d1 d2 d3 d4 d5 d6 e0 e1 e2 e3 e4 e5 e6 p2 sj si
            cases bdv with
            | true =>
              have hlen : (st.set i s).length = gs.length := by rw [List.length_set]; exact HI.out.len
              have sj := step_cell HS3.out.st.steps (k := j) (by rw [hlen]; exact hji)
              rw [stN_set_ne (by omega), hsjv] at sj
              have si := step_cell HS3.out.st.steps (k := i) (by rw [hlen]; exact hlt)
              rw [stN_set_self HILT.out] at si
              have sf : ∀ i, wA.frozen? ⟨BS, i, none⟩ = false := fun i => free_at HS3.out.st.steps
              have slt := lt_of_heap HS3.out.st.steps
              have hS : (sjv : Int) + 1 < 8192 := by omega
              clear hlen
              go_wp2_with fail
              exact ⟨⟨j + 1, sjv + 1, by omega, by go_num, HJY.out hge, HS3.out.again (sjv + 1)⟩, by simp [intOf]; omega⟩
            | false =>
              go_wp2_with fail
              exact ⟨⟨j + 1, s, by omega, by go_num, HJN.out (.inr (by first | rfl | trivial)), HS3.out⟩, by simp [intOf]; omega⟩
          · have hd : decide ((s : Int) ≤ (sjv : Int)) = false := decide_eq_false (by omega)
            go_wp2_with fail
            go_still_tail 16, (by kernel_rfl)
            change wpList _ _ _ _ _ wr.drew
            have HS2 := Lib.hid (HS.out.next (Below.refl _ wr).drew)
            go_wp2_with fail
            exact ⟨⟨j + 1, s, by omega, by go_num, HJN.out (.inl (by omega)), HS2.out⟩, by simp [intOf]; omega⟩
        · obtain rfl : i = j := by omega
          have hsle := HJ.out.le
          have si := step_cell HS.out.st.steps (k := i) (by rw [List.length_set]; exact HILT.out)
          rw [stN_set_self HILT.out] at si
          have ii := idx22 (g := BS) hlt
          have hcl := HI.out.ne
          by_cases hsl : s < L.length
          · have HM := Lib.hid (HI.out.old hlt HJ.out hsl)
            obtain ⟨hs, hlay⟩ := HS.out.st.lay
            obtain ⟨gv, cap, cur, hs2, rfl, hgv, hheap, hcell⟩ := hlay.head hsl
            have HLY := Lib.hid hlay
            have i5 := idx55 (g := gv) (c := cap) hsl
            have hne : ¬ ((s : Int) = (L.length : Int)) := by omega
            have hW : (wr.drew.alloc (.cells #[.int .i64 i] 3)).heap[gv]? = wr.heap[gv]? := (below1 _ _).block gv (lt_of_heap hheap)
            have HHP := Lib.hid (hW.trans hheap)
            have HHC := Lib.hid ((World.cell?_of_block (a := ⟨gv, s, none⟩) hW).trans hcell)
            have HSI : Hid ((wr.drew.alloc (.cells #[.int .i64 i] 3)).cell? ⟨BS, i, none⟩ = some (.int .i64 s)) := Lib.hid ((World.cell?_of_block (a := ⟨BS, i, none⟩) ((below1 _ _).block BS (lt_of_heap HS.out.st.steps))).trans si)
            have GLP := Lib.hid (lt_of_heap hheap)
            have HSM := Lib.hid HS.out.st
            have HRL : Hid ((L[s]).length ≤ 5000) := Lib.hid (HI.out.row_le hl hi hsl)
            clear hlay hheap hW
            go_wp2_with fail
            have HS2 : Hid (LaySt w #[.int .i64 n, .int .i64 b, .slice a gs.length c] BS (st.set i s) (.slice (some ⟨gv, 0, none⟩) L.length cap) L (wr.drew.alloc (.cells #[.int .i64 i] 3))) := Lib.hid ((HSM.out.next (Below.refl _ wr).drew).next (below1 _ _))
            have HL2 : Hid (Lay (BS + 1) (wr.drew.alloc (.cells #[.int .i64 i] 3)) (.slice (some ⟨gv, 0, none⟩) L.length cap) hs L) := Lib.hid ((HLY.out.below (Below.refl _ wr).drew).below (below1 _ _))
            have hnew : (wr.drew.alloc (.cells #[.int .i64 i] 3)).cell? ⟨wr.drew.heap.size, 0, none⟩ = some (.int .i64 i) := cell_at (i := 0) (newB _ _ rfl) rfl
            have hB : BS + 1 ≤ (wr.drew.alloc (.cells #[.int .i64 i] 3)).heap.size := lt_of_heap HS2.out.steps
            have hrl : (L[s]).length ≤ 5000 := HRL.out
            have bl := lt_of_heap HSM.out.steps
            have gl : gv < wr.heap.size := GLP.out
            clear HSM HLY HRL hmk g37 hlc hj hjlt hsle hcl hne hsz hbl HJ HS HILT HCI HG HI HC hgv hi hn hb
            go_region_law (refine step_append_one rfl _ _ rfl rfl rfl (HL2.out.row s hsl hs2) hnew rfl hrl hB ?_; intro v' w' ho hg hf; obtain ⟨av, cv, rfl⟩ := own_isSlice ho; have HA := Lib.hid (LaySt.put HS2.out HL2.out hsl hs2 ho hg hf); have hal := aft (HL2.out.row s hsl hs2) hg; have u1 : w'.cell? ⟨BS, i, none⟩ = some (.int .i64 s) := (World.cell?_of_block (hal.other BS (by omega) (lt_of_heap HS2.out.steps))).trans HSI.out; have u0 := hal.kind gv cur 22 HHP.out (by decide); have u2 : w'.cell? ⟨gv, s, none⟩ = some hs[s] := (World.cell?_of_block (u0.trans HHP.out.symm)).trans HHC.out; have u3 : ∀ i, w'.frozen? ⟨gv, i, none⟩ = false := fun i => free_at u0; have u4 : gv < w'.heap.size := lt_of_heap u0; clear ho hg hf hal u0)
            all_goals (
              go_wp2_with fail
              go_roundw
              case rel => exact ⟨i + 1, _, _, by omega, by go_num, HM.out, HA.out⟩
              case measure => simp [intOf]; omega)
          · obtain rfl : s = L.length := by omega
            have hM2 : L.length < (L ++ [[]]).length := by simp
            have HM := Lib.hid (HI.out.new hlt HJ.out hM2)
            obtain ⟨hs0, hlay⟩ := HS.out.st.lay
            obtain ⟨av0, cv0, rfl⟩ := own_isSlice hlay.own
            have HL0 := Lib.hid (hlay.below (below1 wr (.cells #[.slice none 0 0] 22)))
            have HS0 := Lib.hid (HS.out.st.next (below1 wr (.cells #[.slice none 0 0] 22)))
            have hcs : ∀ (j : Nat) (u : Value), [Value.slice none 0 0][j]? = some u → (wr.alloc (.cells #[.slice none 0 0] 22)).cell? ((⟨wr.heap.size, 0, none⟩ : Addr).add j) = some u := by
              intro j u hu
              match j with
              | 0 => injection hu with hu; subst hu; exact cell_at (i := 0) (newB _ _ rfl) rfl
              | j + 1 => simp at hu
            have HCS := Lib.hid hcs
            obtain ⟨i22, hi22, hz0, hz1, hz2⟩ : ∃ i, Tryz.prog.info? 22 = some i ∧ i.zero = some (.slice none 0 0) ∧ i.size = 1 ∧ i.bytes = 24 := ⟨_, rfl, rfl, rfl, rfl⟩
            clear hlay hcs
            go_wp2_with (at_builtin; refine wpList_append_own _ rfl _ _ 55 rfl (BS + 1) 22 i22 _ 1 24 Tryz.underlying55 hi22 hz0 hz1 hz2 rfl (by decide) _ L.length hs0 rfl HL0.out.own ⟨wr.heap.size, 0, none⟩ 1 1 [.slice none 0 0] rfl rfl HCS.out ?c2 ?c3 ?c4 ?c5 ?_)
            case c2 => intro u hu; rw [List.mem_singleton] at hu; subst hu; rfl
            case c3 => unfold maxLen; omega
            case c4 => omega
            case c5 => exact lt_of_heap HS0.out.steps
            intro v' w1 hown hgr _
            have hlay1 := HL0.out.push hown hgr
            have HSM := Lib.hid (HS0.out.push HL0.out hown hgr)
            have hrr : ((L ++ [[]])[L.length]'hM2).length ≤ 5000 := by rw [List.getElem_append_right (Nat.le_refl _)]; simp
            clear HL0 HS0 HCS hown hgr HS si
            generalize L ++ [[]] = M at *
            generalize hs0 ++ [Value.slice none 0 0] = hs at *
            have HRL := Lib.hid hrr
            clear hrr
            obtain ⟨gv, cap, cur, hs2, rfl, hgv, hheap, hcell⟩ := hlay1.head hM2
            have HLY := Lib.hid hlay1
            have i5 := idx55 (g := gv) (c := cap) hM2
            have si := step_cell HSM.out.steps (k := i) (by rw [List.length_set]; exact HILT.out)
            rw [stN_set_self HILT.out] at si
            have hW : (w1.drew.alloc (.cells #[.int .i64 i] 3)).heap[gv]? = w1.heap[gv]? := (below1 _ _).block gv (lt_of_heap hheap)
            have HHP := Lib.hid (hW.trans hheap)
            have HHC := Lib.hid ((World.cell?_of_block (a := ⟨gv, L.length, none⟩) hW).trans hcell)
            have HSI : Hid ((w1.drew.alloc (.cells #[.int .i64 i] 3)).cell? ⟨BS, i, none⟩ = some (.int .i64 L.length)) := Lib.hid ((World.cell?_of_block (a := ⟨BS, i, none⟩) ((below1 _ _).block BS (lt_of_heap HSM.out.steps))).trans si)
            have GLP := Lib.hid (lt_of_heap hheap)
            clear hlay1 hheap hW
            go_wp2_with fail
            have HS2 : Hid (LaySt w #[.int .i64 n, .int .i64 b, .slice a gs.length c] BS (st.set i L.length) (.slice (some ⟨gv, 0, none⟩) M.length cap) M (w1.drew.alloc (.cells #[.int .i64 i] 3))) := Lib.hid ((HSM.out.next (Below.refl _ w1).drew).next (below1 _ _))
            have HL2 : Hid (Lay (BS + 1) (w1.drew.alloc (.cells #[.int .i64 i] 3)) (.slice (some ⟨gv, 0, none⟩) M.length cap) hs M) := Lib.hid ((HLY.out.below (Below.refl _ w1).drew).below (below1 _ _))
            have hnew : (w1.drew.alloc (.cells #[.int .i64 i] 3)).cell? ⟨w1.drew.heap.size, 0, none⟩ = some (.int .i64 i) := cell_at (i := 0) (newB _ _ rfl) rfl
            have hB : BS + 1 ≤ (w1.drew.alloc (.cells #[.int .i64 i] 3)).heap.size := lt_of_heap HS2.out.steps
            have hrl : (M[L.length]).length ≤ 5000 := HRL.out
            have bl := lt_of_heap HSM.out.steps
            have gl : gv < w1.heap.size := GLP.out
            clear HSM HLY HRL hmk g37 hlc hj hjlt hsle hcl hsz hbl HJ HILT HCI HG HI HC hgv hi hn hb
            go_region_law (refine step_append_one rfl _ _ rfl rfl rfl (HL2.out.row L.length hM2 hs2) hnew rfl hrl hB ?_; intro v' w' ho hg hf; obtain ⟨av, cv, rfl⟩ := own_isSlice ho; have HA := Lib.hid (LaySt.put HS2.out HL2.out hM2 hs2 ho hg hf); have hal := aft (HL2.out.row L.length hM2 hs2) hg; have u1 : w'.cell? ⟨BS, i, none⟩ = some (.int .i64 L.length) := (World.cell?_of_block (hal.other BS (by omega) (lt_of_heap HS2.out.steps))).trans HSI.out; have u0 := hal.kind gv cur 22 HHP.out (by decide); have u2 : w'.cell? ⟨gv, L.length, none⟩ = some hs[L.length] := (World.cell?_of_block (u0.trans HHP.out.symm)).trans HHC.out; have u3 : ∀ i, w'.frozen? ⟨gv, i, none⟩ = false := fun i => free_at u0; have u4 : gv < w'.heap.size := lt_of_heap u0; clear ho hg hf hal u0)
            all_goals (
              go_wp2_with fail
              go_roundw
              case rel => exact ⟨i + 1, _, _, by omega, by go_num, HM.out, HA.out⟩
              case measure => simp [intOf]; omega)
    · obtain rfl : i = gs.length := by omega
      clear hmk g37 HC
      go_wp2_with fail
      refine bodyPost_ret (v := .tuple #[u6, .int .i64 0]) (by simp [results, Tryz.results19, go_sem, *]) rfl ⟨_, L, st, rfl, HI.out, ?_, HL.out.below⟩
      obtain ⟨hs9, h9⟩ := HL.out.lay
      exact ⟨hs9, h9.mono (by have := HL.out.lo; omega)⟩
end Go.Proofs.YtlobgpgdknjhlaaGreat.WH
