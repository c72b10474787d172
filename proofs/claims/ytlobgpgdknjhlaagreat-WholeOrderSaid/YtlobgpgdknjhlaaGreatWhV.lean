/- dense.Run: walked. -/
import Derived.Test.YtlobgpgdknjhlaaGreatWhU
import Derived.Laws.CopyOwn
namespace Go.Proofs.YtlobgpgdknjhlaaGreat.WH
open Go Go.RowKit Go.Proofs.YtlobgpgdknjhlaaGreat.F
set_option linter.unusedVariables false
set_option linter.unusedSimpArgs false
attribute [local go_sem] run_store_complex run_store_func
theorem two_one (rs : List Rg) : ∀ v ∈ flat2 rs, v.oneCell' = true := by
  intro v hv
  obtain ⟨r, hr, h⟩ := List.mem_flatMap.1 hv
  simp only [two, List.mem_cons, List.not_mem_nil, or_false] at h
  rcases h with rfl | rfl <;> rfl
theorem Rings.cells {w : World} {b off c : Nat} {rs : List Rg} (h : ∀ (j : Nat) (h : j < rs.length), Cell2 w b (off + j * 2) rs[j]) (j : Nat) (v : Value) (hv : (flat2 rs)[j]? = some v) : w.cell? ((⟨b, off, none⟩ : Addr).add j) = some v := by
  have hl : j < (flat2 rs).length := by
    by_cases hlt : j < (flat2 rs).length
    · exact hlt
    · rw [List.getElem?_eq_none (by omega)] at hv; cases hv
  rw [flat2_len] at hl
  have hj : j / 2 < rs.length := by omega
  have hc := h (j / 2) hj
  have hf := flat2_at rs (j / 2) hj
  have hadd : (⟨b, off, none⟩ : Addr).add j = ⟨b, off + j, none⟩ := by unfold Addr.add; split <;> simp_all
  rw [hadd]
  rcases Nat.mod_two_eq_zero_or_one j with h0 | h0
  · have e : j / 2 * 2 = j := by omega
    rw [e] at hf hc
    rw [hf.1] at hv
    injection hv with hv
    rw [← hv]
    exact hc.1
  · have e : j / 2 * 2 + 1 = j := by omega
    rw [e] at hf
    rw [hf.2] at hv
    injection hv with hv
    rw [← hv, show off + j = off + j / 2 * 2 + 1 by omega]
    exact hc.2
set_option maxRecDepth 100000 in
theorem run_copy_rings (w : World) (ty : TypeId) (g c : Nat) (a : Option Addr) (rs : List Rg) (cur : List Rg) (hl : cur.length = rs.length) (hp : 0 < rs.length) (h : Rings w a c rs) (hg : OwnR w g cur) :
    (Builtin.copy_ #[35, 35] ty #[.slice (some ⟨g, 0, none⟩) rs.length rs.length, .slice a rs.length c]).run Tryz.prog w = .ok (goInt rs.length) (w.setRow g (flat2 rs).toArray) := by
  rcases h.at_ with rfl | ⟨b, off, rfl, hc⟩
  · simp at hp
  · have hld := run_loadCells_list (P := Tryz.prog) w ⟨b, off, none⟩ (flat2 rs) (Rings.cells (c := c) hc)
    have hst := run_storeCells_at Tryz.prog g 0 65 (flat2 rs) 0 (flat2 cur).toArray w hg (by rw [flat2_len]; simp [flat2_len, hl]) (two_one rs)
    rw [flat2_len] at hld
    obtain ⟨i, hi, hz⟩ : ∃ i, Tryz.prog.info? 65 = some i ∧ i.size = 2 := ⟨_, rfl, rfl⟩
    have hd : List.drop (rs.length * 2) (flat2 cur) = [] := List.drop_eq_nil_of_le (by rw [flat2_len, hl]; omega)
    simp [Builtin.copy_, run_underlying Tryz.underlying35, Builtin.lenOf, Builtin.firstCells, sizeOf, typeInfo, hi, hz, hld, hst, flat2_len, hd]
theorem wpList_copy_rings {w : World} {ops : Array Oper} {rest : List Oper} {o : Oper} {a : Act} {Q : Exit → Act → World → Prop} (hgd : o.guard = none) (d s : Operand)
    (ho : o.op = .call { callee := .builtin .copy, args := #[d, s], argTypes := #[35, 35] }) (g c n n' n'' : Nat) (sa : Option Addr) (rs cur : List Rg) (hn : n = rs.length) (hn' : n' = rs.length) (hn'' : n'' = rs.length) (hd : a.eval d = .slice (some ⟨g, 0, none⟩) n n') (hs : a.eval s = .slice sa n'' c) (hl : cur.length = rs.length) (hp : 0 < rs.length) (hr : Rings w sa c rs) (hg : OwnR w g cur)
    (h : ∀ w', Hid (OwnR w' g rs ∧ But g w w') → wpList Tryz.prog ops Q rest (a.put o.dst (goInt rs.length)) w') : wpList Tryz.prog ops Q (o :: rest) a w := by
  subst hn hn' hn''
  refine wpList_plain hgd fun K hK => ?_
  have hrun := run_copy_rings w o.type g c sa rs cur hl hp hr hg
  unfold Oper.wp
  simp [execOp, ho, resolve, invoke, builtin, hd, hs, hrun, Result.andThen]
  refine hK _ _ (h _ (Lib.hid ⟨setRow_heap w g _ _ _ _ hg, rfl, rfl, rfl, by simp [World.setRow], fun k hk hne => setRow_other w g k _ hne⟩))
/-- What a circuit of gates makes of a state. -/
def stepR (s : Nat × List Rg) (g : Gop) : Nat × List Rg := formS (s.1 + g.e.ha) (applyR g.e s.2 g.qs)
def runR (s : Nat × List Rg) (gs : List Gop) : Nat × List Rg := gs.foldl stepR s
theorem formS_len (k : Nat) (rs : List Rg) : (formS k rs).2.length = rs.length := formK_len _ _
theorem formS_le (k : Nat) (rs : List Rg) : (formS k rs).1 ≤ k := by
  unfold formS
  refine Nat.le_trans (formK_le _ _) ?_
  split <;> omega
theorem formK_bd {m : Nat} : ∀ (k : Nat) (rs : List Rg), (∀ r ∈ rs, Bd m r) → ∀ r ∈ (formK k rs).2, Bd m r
  | 0, _, h => h
  | k + 1, rs, h => by
    rw [formK]
    split
    · refine formK_bd k _ fun r hr => ?_
      obtain ⟨s, hs, rfl⟩ := List.mem_map.1 hr
      exact (h s hs).halve
    · exact h
theorem formK_one : ∀ (k : Nat) (rs : List Rg), (formK k rs).1 = 0 ∨ ∃ r ∈ (formK k rs).2, evn r = false
  | 0, _ => .inl rfl
  | k + 1, rs => by
    rw [formK]
    split
    · exact formK_one k _
    · rename_i h
      refine .inr ?_
      simp only [Classical.not_forall] at h
      obtain ⟨r, hr, he⟩ := h
      exact ⟨r, hr, by simpa using he⟩
theorem applyR_len (e : En) (rs : List Rg) (qs : List Nat) : (applyR e rs qs).length = rs.length := by simp [applyR]
theorem applyR_bd {e : En} (he : e ∈ gates) {rs : List Rg} {m : Nat} {qs : List Nat} (hl : qs.length = e.ar) (h : ∀ r ∈ rs, Bd m r) : ∀ r ∈ applyR e rs qs, Bd (m * 2 ^ e.ha) r := by
  intro r hr
  obtain ⟨t, ht, rfl⟩ := List.mem_map.1 hr
  exact acc_bd he hl t h (Nat.le_refl _)
/-- A state, bounded. -/
structure Good (n m : Nat) (s : Nat × List Rg) : Prop where
  len : s.2.length = 2 ^ n
  bd : ∀ r ∈ s.2, Bd (2 ^ m) r
  k : s.1 ≤ m
  one : s.1 = 0 ∨ ∃ r ∈ s.2, evn r = false
theorem Good.step {n m : Nat} {s : Nat × List Rg} (h : Good n m s) {g : Gop} (hg : g.Ok n) : Good n (m + g.e.ha) (stepR s g) := by
  refine ⟨by rw [stepR, formS_len, applyR_len, h.len], ?_, Nat.le_trans (formS_le _ _) (by have := h.k; omega), formK_one _ _⟩
  rw [Nat.pow_add]
  exact formK_bd _ _ (applyR_bd hg.mem hg.len h.bd)
theorem Good.formd {n m : Nat} {s : Nat × List Rg} (h : Good n m s) (hn : n ≤ 10) (hm : m ≤ 52) : Formd n s.1 s.2 :=
  ⟨hn, by have := h.k; omega, h.len, fun r hr => (h.bd r hr).pt (Nat.pow_lt_pow_right (by decide) (by omega)), h.one⟩
theorem runR_snoc (s : Nat × List Rg) (gs : List Gop) {j : Nat} (hj : j < gs.length) : runR s (gs.take (j + 1)) = stepR (runR s (gs.take j)) gs[j] := by
  unfold runR
  rw [List.take_add_one, List.getElem?_eq_getElem hj, List.foldl_append]
  rfl
theorem Good.run {n m : Nat} {s : Nat × List Rg} (h : Good n m s) {gs : List Gop} (hg : ∀ g ∈ gs, g.Ok n) : ∀ j, j ≤ gs.length → Good n (m + sumH (gs.take j)) (runR s (gs.take j))
  | 0, _ => h
  | j + 1, hj => by
    rw [runR_snoc s gs (by omega), sumH_take gs (by omega), ← Nat.add_assoc]
    exact (h.run hg j (by omega)).step (hg _ (List.getElem_mem (by omega)))
/-- The boxes. -/
structure R0 (w : World) (n k b : Nat) (sa : Option Addr) (sl sc : Nat) (a : Option Addr) (l c : Nat) (W : World) : Prop where
  below : Below w.heap.size w W
  st : W.heap[w.heap.size]? = some (.cells #[.int .i64 n, .int .i64 k, .slice sa sl sc] 37)
  circ : W.heap[w.heap.size + 1]? = some (.cells #[.int .i64 n, .int .i64 b, .slice a l c] 31)
  res : W.heap[w.heap.size + 1 + 1]? = some (.cells #[.int .i64 0, .int .i64 0, .slice none 0 0] 37)
theorem R0.start (w : World) (n k b : Nat) (sa : Option Addr) (sl sc : Nat) (a : Option Addr) (l c : Nat) : R0 w n k b sa sl sc a l c (((w.alloc (.cells #[.int .i64 n, .int .i64 k, .slice sa sl sc] 37)).alloc (.cells #[.int .i64 n, .int .i64 b, .slice a l c] 31)).alloc (.cells #[.int .i64 0, .int .i64 0, .slice none 0 0] 37)) :=
  ⟨((below1 _ _).trans ((below1 _ _).mono (by simp))).trans ((below1 _ _).mono (by simp; omega)), Below.heap_some (below1 _ _) (Below.heap_some (below1 _ _) (newB _ _ rfl)), Below.heap_some (below1 _ _) (newB _ _ (by simp)), newB _ _ (by simp)⟩
section
variable {w W W' : World} {n k b sl sc l c : Nat} {sa a : Option Addr}
theorem R0.next (h : R0 w n k b sa sl sc a l c W) (hb : Below W.heap.size W W') : R0 w n k b sa sl sc a l c W' :=
  ⟨h.below.trans (hb.mono h.below.size), Below.heap_some hb h.st, Below.heap_some hb h.circ, Below.heap_some hb h.res⟩
theorem R0.but {B : Nat} (h : R0 w n k b sa sl sc a l c W) (hb : But B W W') (hB : w.heap.size + 1 + 1 < B) : R0 w n k b sa sl sc a l c W' :=
  ⟨hb.above h.below (by omega), (hb.block _ (Array.getElem?_eq_some_iff.1 h.st).1 (by omega)).trans h.st, (hb.block _ (Array.getElem?_eq_some_iff.1 h.circ).1 (by omega)).trans h.circ, (hb.block _ (Array.getElem?_eq_some_iff.1 h.res).1 (by omega)).trans h.res⟩
/-- And the state under way. -/
structure RSt2 (w : World) (n k b : Nat) (sa : Option Addr) (sl sc : Nat) (a : Option Addr) (l c b11 BO len : Nat) (s : Nat × List Rg) (W : World) : Prop where
  r0 : R0 w n k b sa sl sc a l c W
  out : W.heap[b11]? = some (.cells #[.int .i64 n, .int .i64 s.1, .slice (some ⟨BO, 0, none⟩) len len] 37)
  own : OwnR W BO s.2
  gt : w.heap.size + 1 + 1 < BO
  gt2 : w.heap.size + 1 + 1 < b11
theorem RSt2.next {b11 BO len : Nat} {s : Nat × List Rg} (h : RSt2 w n k b sa sl sc a l c b11 BO len s W) (hb : Below W.heap.size W W') : RSt2 w n k b sa sl sc a l c b11 BO len s W' :=
  ⟨h.r0.next hb, Below.heap_some hb h.out, h.own.below hb, h.gt, h.gt2⟩
theorem RSt2.one {m : Nat} {l0 : List Rg} (h : R0 w n k b sa sl sc a l c W) : ∃ b11 BO,
    Value.pointer (some ⟨W.heap.size + 1, 0, none⟩) = Value.pointer (some ⟨b11, 0, none⟩) ∧ RSt2 w n k b sa sl sc a l c b11 BO m (k, l0) ((W.alloc (.cells (flat2 l0).toArray 65)).alloc (.cells #[.int .i64 n, .int .i64 k, .slice (some ⟨W.heap.size, 0, none⟩) m m] 37)).drew := by
  have hlt := (Array.getElem?_eq_some_iff.1 h.res).1
  exact ⟨_, _, rfl, ((h.next (below1 _ _)).next (below1 _ _)).next (Below.refl _ _).drew, newB _ _ (by simp), OwnR.below (OwnR.below (newB _ _ rfl) (below1 _ _)) (Below.refl _ _).drew, hlt, Nat.lt_succ_of_lt hlt⟩
theorem RSt2.two {m : Nat} {l0 : List Rg} (h : R0 w n k b sa sl sc a l c W) : ∃ b11 BO,
    Value.pointer (some ⟨W.heap.size, 0, none⟩) = Value.pointer (some ⟨b11, 0, none⟩) ∧ RSt2 w n k b sa sl sc a l c b11 BO m (k, l0) ((W.alloc (.cells #[.int .i64 n, .int .i64 k, .slice (some ⟨W.heap.size + 1, 0, none⟩) m m] 37)).alloc (.cells (flat2 l0).toArray 65)).drew := by
  have hlt := (Array.getElem?_eq_some_iff.1 h.res).1
  exact ⟨_, _, rfl, ((h.next (below1 _ _)).next (below1 _ _)).next (Below.refl _ _).drew, Below.heap_some (Below.refl _ _).drew (Below.heap_some (below1 _ _) (newB _ _ rfl)), OwnR.below (newB _ _ (by simp)) (Below.refl _ _).drew, Nat.lt_succ_of_lt hlt, hlt⟩
/-- The result of Apply, stored. -/
theorem RSt2.put {b11 BO len B : Nat} {s s' : Nat × List Rg} (h : RSt2 w n k b sa sl sc a l c b11 BO len s W) (ho : OwnR W B s'.2) (hB : w.heap.size + 1 + 1 < B) : RSt2 w n k b sa sl sc a l c b11 B len s' (((W.setCell ⟨b11, 0, none⟩ (.int .i64 n)).setCell ⟨b11, 1, none⟩ (.int .i64 s'.1)).setCell ⟨b11, 2, none⟩ (.slice (some ⟨B, 0, none⟩) len len)) := by
  have hg := h.gt2
  have hne : B ≠ b11 := kinds_ne ho h.out (by decide)
  have hl := (Array.getElem?_eq_some_iff.1 h.r0.res).1
  refine ⟨⟨put3 h.r0.below (by omega) _ _ _, ?_, ?_, ?_⟩, ?_, ((ho.far hne).far hne).far hne, hB, h.gt2⟩
  · rw [setCell_far (by omega), setCell_far (by omega), setCell_far (by omega)]; exact h.r0.st
  · rw [setCell_far (by omega), setCell_far (by omega), setCell_far (by omega)]; exact h.r0.circ
  · rw [setCell_far (by omega), setCell_far (by omega), setCell_far (by omega)]; exact h.r0.res
  · rw [setCell_block (setCell_block (setCell_block h.out _) _) _]
    rfl
end
set_option maxRecDepth 100000 in
set_option maxHeartbeats 4000000 in
theorem run_calls (n k m b : Nat) (hn : n ≤ 10) (hb : b ≤ 64) (sa : Option Addr) (sc : Nat) (rs : List Rg) (a : Option Addr) (c : Nat) (gs : List Gop) (w : World)
    (hg : Good n m (k, rs)) (hr : Rings w sa sc rs) (hc : Circ w n a c gs) (hl : gs.length ≤ 4096) (hs : sumH gs ≤ 36) (hm : m + sumH gs ≤ 52) :
    Calls Tryz.prog 15 #[.agg #[.int .i64 n, .int .i64 k, .slice sa rs.length sc], .agg #[.int .i64 n, .int .i64 b, .slice a gs.length c]] w fun x w' =>
      ∃ B, x = .returned (.tuple #[.agg #[.int .i64 n, .int .i64 (runR (k, rs) gs).1, .slice (some ⟨B, 0, none⟩) rs.length rs.length], .int .i64 0]) ∧ OwnR w' B (runR (k, rs) gs).2 ∧ w.heap.size ≤ B ∧ Below w.heap.size w w' := by
  have HG := Lib.hid hg
  have HR := Lib.hid hr
  have HC := Lib.hid hc
  have HM := Lib.hid hm
  have HS := Lib.hid (R0.start w n k b sa rs.length sc a gs.length c)
  have hlen : rs.length = 2 ^ n := hg.len
  have hrl : rs.length ≤ 1024 := by rw [hlen]; exact pow_le hn
  have hr0 : 0 < rs.length := by rw [hlen]; exact Nat.two_pow_pos n
  have hmk := make_rings rs.length hrl
  have hb37 := bd37
  have g36 := fun w h => check_calls n k sa sc rs w (hg.formd hn (by omega)) h
  have g37 := fun w h => ccheck_calls n b (by omega) hb a c gs w h hl hs
  have g38 := fun w h => clean_calls n b (by omega) hb a c gs w h hl hs
  have hlc : (gs.length : Int) ≤ 4096 := by omega
  have hlc2 : (rs.length : Int) ≤ 1024 := by omega
  clear hg hr hc hs hm hlen
  go_enter Tryz.func15, Tryz.ntmps15
  go_wp2_with fail
  go_at_call 36
  refine (g36 _ (HR.out.below HS.out.below)).mono ?_
  rintro x w1 ⟨rfl, hb1⟩
  replace HS := Lib.hid (HS.out.next hb1)
  clear hb1 g36
  have p0 := cell_at (i := 0) HS.out.circ rfl
  have p1 := cell_at (i := 1) HS.out.circ rfl
  have p2 := cell_at (i := 2) HS.out.circ rfl
  go_wp2_with fail
  go_at_call 37
  refine (g37 _ (HC.out.below HS.out.below)).mono ?_
  rintro x w2 ⟨rfl, hb1⟩
  replace HS := Lib.hid (HS.out.next hb1)
  clear hb1 g37 p0 p1 p2
  have p0 := cell_at (i := 0) HS.out.circ rfl
  have p1 := cell_at (i := 1) HS.out.circ rfl
  have p2 := cell_at (i := 2) HS.out.circ rfl
  go_wp2_with fail
  go_at_call 38
  refine (g38 _ (HC.out.below HS.out.below)).mono ?_
  rintro x w3 ⟨rfl, hb1⟩
  replace HS := Lib.hid (HS.out.next hb1)
  clear hb1 g38 p0 p1 p2
  have p0 := cell_at (i := 0) HS.out.circ rfl
  have s0 := cell_at (i := 0) HS.out.st rfl
  have s1 := cell_at (i := 1) HS.out.st rfl
  have s2 := cell_at (i := 2) HS.out.st rfl
  have slt := block_lt s0
  go_upto_region 12 with fail
  go_cut [11] from 44 to 52 (fun v11 W => ∃ b11 BO, v11 = .pointer (some ⟨b11, 0, none⟩) ∧ RSt2 w n k b sa rs.length sc a gs.length c b11 BO rs.length (k, List.replicate rs.length nilR) W)
  case first =>
    go_region
    all_goals (go_wp2_with fail; go_meet)
    all_goals first | exact RSt2.one HS.out | exact RSt2.two HS.out
  case rest =>
    obtain ⟨b11, BO, rfl, hst⟩ := hcut
    clear HS p0 s0 s1 s2 slt hmk
    have HS := Lib.hid hst
    clear hst
    have o2 := cell_at (i := 2) HS.out.out rfl
    have s2 := cell_at (i := 2) HS.out.r0.st rfl
    have p2 := cell_at (i := 2) HS.out.r0.circ rfl
    go_wp2_with (refine wpList_copy_rings rfl (.tmp 54) (.tmp 56) rfl BO sc rs.length rs.length rs.length sa rs (List.replicate rs.length nilR) rfl rfl rfl ?d ?s (by simp) hr0 ?r ?o ?next)
    case r => exact HR.out.below HS.out.r0.below
    case o => exact HS.out.own
    intro w4 hw4
    have HS2 : Hid (RSt2 w n k b sa rs.length sc a gs.length c b11 BO rs.length (runR (k, rs) (gs.take 0)) w4) := Lib.hid (by
      have hne : b11 ≠ BO := kinds_ne HS.out.out HS.out.own (by decide)
      exact ⟨HS.out.r0.but hw4.out.2 HS.out.gt, (hw4.out.2.block _ (Array.getElem?_eq_some_iff.1 HS.out.out).1 hne).trans HS.out.out, hw4.out.1, HS.out.gt, HS.out.gt2⟩)
    clear HS o2 s2 p2 hw4
    have HS := HS2
    clear HS2
    have p2 := cell_at (i := 2) HS.out.r0.circ rfl
    go_wp2_with fail
    clear p2
    go_loopw [13, 14, 61] (fun _ _ k' W => ∃ (j B : Nat), j ≤ gs.length ∧ k' = .int .i64 j ∧ RSt2 w n k b sa rs.length sc a gs.length c b11 B rs.length (runR (k, rs) (gs.take j)) W) (fun _ _ k' _ => gs.length - (intOf k').toNat)
    case atStart => exact ⟨0, BO, Nat.zero_le _, rfl, HS.out⟩
    case round =>
      obtain ⟨j, B, hj, rfl, hst⟩ := hrel
      clear HS
      have HS := Lib.hid hst
      clear hst
      by_cases hlt : j < gs.length
      · obtain ⟨bo, oo, hbl, hidx, c0, c1, c2, c3, c4, c5, c6⟩ := (HC.out.below HS.out.r0.below).at j hlt
        have hgood := HG.out.run HC.out.ok j hj
        have hsj := sumH_le gs j
        have hsj1 := sumH_le gs (j + 1)
        rw [sumH_take gs hlt] at hsj1
        have hmm := HM.out
        have hok := HC.out.ok _ (List.getElem_mem hlt)
        have HIN := Lib.hid (HC.out.ints _ (List.getElem_mem hlt))
        have HST := Lib.hid (runR_snoc (k, rs) gs hlt)
        have hsl : (runR (k, rs) (gs.take j)).2.length = rs.length := by rw [hgood.len]; exact HG.out.len.symm
        have HRI : Hid (∀ W, OwnR W B (runR (k, rs) (gs.take j)).2 → Rings W (some ⟨B, 0, none⟩) rs.length (runR (k, rs) (gs.take j)).2) := Lib.hid fun W h => by
          have h1 := h.rings (fun r hr => (hgood.bd r hr).pt (Nat.pow_lt_pow_right (by decide) (by omega))) (by rw [hsl]; omega)
          rw [hsl] at h1
          exact h1
        generalize runR (k, rs) (gs.take j) = s at *
        generalize gs[j] = g at *
        have g22 := fun W h1 h2 => apply_calls g.e hok.mem n s.1 (2 ^ (m + sumH (gs.take j))) (some ⟨B, 0, none⟩) rs.length s.2 g.aq g.cq g.qs W (hgood.formd hn (by omega)) h1 h2 hok.len hok.lt hok.nd hgood.bd (by rw [← Nat.pow_add]; exact Nat.pow_lt_pow_right (by decide) (by omega)) (by have := hgood.k; omega)
        rw [hsl] at g22
        clear hgood hsj hsj1 hmm hok hsl
        have HS2 := Lib.hid (HS.out.next (below1 wr (.cells #[.int .i64 1, .string g.e.name, .slice g.aq g.qs.length g.cq, .int .i64 0, .bool false, .int .u64 0, .int .u64 0] 28)))
        have d0 := cell_at (i := 0) HS.out.out rfl
        have d1 := cell_at (i := 1) HS.out.out rfl
        have d2 := cell_at (i := 2) HS.out.out rfl
        have dlt := block_lt d0
        go_wp2_with fail
        go_at_call 22
        refine (g22 _ (HRI.out _ HS2.out.own) (HIN.out.below HS2.out.r0.below)).mono ?_
        rintro x w5 ⟨B2, rfl, hown, hB2, hb5⟩
        have HO := Lib.hid hown
        have HB2 := Lib.hid hB2
        replace HS2 := Lib.hid (HS2.out.next hb5)
        clear hown hB2 hb5 c0 c1 c2 c3 c4 c5 c6 d0 d1 d2 hidx
        have d0 := cell_at (i := 0) HS2.out.out rfl
        have d1 := cell_at (i := 1) HS2.out.out rfl
        have d2 := cell_at (i := 2) HS2.out.out rfl
        have df : ∀ i, w5.frozen? ⟨b11, i, none⟩ = false := fun i => free_at HS2.out.out
        have HS3 : Hid (RSt2 w n k b sa rs.length sc a gs.length c b11 B2 rs.length (runR (k, rs) (gs.take (j + 1))) (((w5.setCell ⟨b11, 0, none⟩ (.int .i64 n)).setCell ⟨b11, 1, none⟩ (.int .i64 (formS (s.1 + g.e.ha) (applyR g.e s.2 g.qs)).1)).setCell ⟨b11, 2, none⟩ (.slice (some ⟨B2, 0, none⟩) rs.length rs.length))) := Lib.hid (by
          rw [HST.out]
          exact RSt2.put (s' := stepR s g) HS2.out HO.out (by
            have h1 := Nat.le_trans (below1 wr _).size HB2.out
            have h2 := (Array.getElem?_eq_some_iff.1 HS.out.r0.res).1
            omega))
        go_wp2_with fail
        go_roundw
        case rel => exact ⟨j + 1, B2, by omega, by go_num, HS3.out⟩
        case measure => simp [intOf]; omega
      · obtain rfl : j = gs.length := by omega
        rw [List.take_length] at *
        have d0 := cell_at (i := 0) HS.out.out rfl
        have d1 := cell_at (i := 1) HS.out.out rfl
        have d2 := cell_at (i := 2) HS.out.out rfl
        have r0 := cell_at (i := 0) HS.out.r0.res rfl
        have r1 := cell_at (i := 1) HS.out.r0.res rfl
        have r2 := cell_at (i := 2) HS.out.r0.res rfl
        have rf : ∀ i, wr.frozen? ⟨w.heap.size + 1 + 1, i, none⟩ = false := fun i => free_at HS.out.r0.res
        go_wp2_with fail
        refine bodyPost_ret (v := .tuple #[.agg #[.int .i64 n, .int .i64 (runR (k, rs) gs).1, .slice (some ⟨B, 0, none⟩) rs.length rs.length], .int .i64 0]) (by simp [results, Tryz.results15, go_sem, *]) rfl ⟨B, rfl, ?_, by have := HS.out.gt; omega, ?_⟩
        · have hne := kinds_ne HS.out.r0.res HS.out.own (by decide)
          exact ((HS.out.own.far (Ne.symm hne)).far (Ne.symm hne)).far (Ne.symm hne)
        · exact put3 HS.out.r0.below (by omega) _ _ _
end Go.Proofs.YtlobgpgdknjhlaaGreat.WH
