/- The package circuit: Check, Clean, walked. -/
import Derived.Test.YtlobgpgdknjhlaaGreatWhS
namespace Go.Proofs.YtlobgpgdknjhlaaGreat.WH
open Go Go.RowKit Go.Proofs.YtlobgpgdknjhlaaGreat.F
set_option linter.unusedVariables false
set_option linter.unusedSimpArgs false
attribute [local go_sem] run_store_complex run_store_func
/-- The seven cells of an operation. -/
structure Cell7 (W : World) (b o : Nat) (g : Gop) : Prop where
  c0 : W.cell? ⟨b, o, none⟩ = some (.int .i64 1)
  c1 : W.cell? ⟨b, o + 1, none⟩ = some (.string g.e.name)
  c2 : W.cell? ⟨b, o + 2, none⟩ = some (.slice g.aq g.qs.length g.cq)
  c3 : W.cell? ⟨b, o + 3, none⟩ = some (.int .i64 0)
  c4 : W.cell? ⟨b, o + 4, none⟩ = some (.bool false)
  c5 : W.cell? ⟨b, o + 5, none⟩ = some (.int .u64 0)
  c6 : W.cell? ⟨b, o + 6, none⟩ = some (.int .u64 0)
/-- A circuit's operations: gates alone, on n qubits. -/
structure Circ (W : World) (n : Nat) (a : Option Addr) (c : Nat) (gs : List Gop) : Prop where
  len : gs.length ≤ c
  cap : c ≤ 9223372036854775807
  ok : ∀ g ∈ gs, g.Ok n
  ints : ∀ g ∈ gs, Ints W g.aq g.cq g.qs
  at_ : gs = [] ∨ ∃ b off, a = some ⟨b, off, none⟩ ∧ ∀ (j : Nat) (h : j < gs.length), Cell7 W b (off + j * 7) gs[j]
theorem Cell7.below {w w' : World} {b o : Nat} {g : Gop} (h : Cell7 w b o g) (hb : Below w.heap.size w w') : Cell7 w' b o g :=
  ⟨(hb.cell (p := ⟨b, o, none⟩) (block_lt h.c0)).trans h.c0, (hb.cell (p := ⟨b, o + 1, none⟩) (block_lt h.c0)).trans h.c1, (hb.cell (p := ⟨b, o + 2, none⟩) (block_lt h.c0)).trans h.c2, (hb.cell (p := ⟨b, o + 3, none⟩) (block_lt h.c0)).trans h.c3, (hb.cell (p := ⟨b, o + 4, none⟩) (block_lt h.c0)).trans h.c4, (hb.cell (p := ⟨b, o + 5, none⟩) (block_lt h.c0)).trans h.c5, (hb.cell (p := ⟨b, o + 6, none⟩) (block_lt h.c0)).trans h.c6⟩
theorem Circ.below {w w' : World} {n : Nat} {a : Option Addr} {c : Nat} {gs : List Gop} (h : Circ w n a c gs) (hb : Below w.heap.size w w') : Circ w' n a c gs :=
  ⟨h.len, h.cap, h.ok, fun g hg => (h.ints g hg).below hb, h.at_.imp id fun ⟨b, off, e, hc⟩ => ⟨b, off, e, fun j hj => (hc j hj).below hb⟩⟩
theorem Circ.at {w : World} {n : Nat} {a : Option Addr} {c : Nat} {gs : List Gop} (h : Circ w n a c gs) (j : Nat) (hj : j < gs.length) :
    ∃ b o, b < w.heap.size ∧ (∀ W, (Instr.indexAt 29 (Value.slice a gs.length c) (.int .i64 j)).run Tryz.prog W = .ok (.pointer (some ⟨b, o, none⟩)) W) ∧ Cell7 w b o gs[j] := by
  rcases h.at_ with rfl | ⟨b, off, rfl, hc⟩
  · simp at hj
  · refine ⟨b, off + j * 7, block_lt (hc j hj).c0, fun W => ?_, hc j hj⟩
    have hs : ∀ W, (Go.sizeOf (Tryz.prog.elem 29)).run Tryz.prog W = .ok 7 W := fun _ => by kernel_rfl
    rw [run_indexAt_slice _ 29 _ _ _ _ _ (by kernel_rfl), if_pos ⟨by omega, by exact_mod_cast hj⟩, hs]
    simp [Result.andThen, Addr.add]
def sumH (gs : List Gop) : Nat := (gs.map (·.e.ha)).sum
theorem sumH_take (gs : List Gop) {j : Nat} (hj : j < gs.length) : sumH (gs.take (j + 1)) = sumH (gs.take j) + gs[j].e.ha := by
  unfold sumH
  rw [List.take_add_one, List.getElem?_eq_getElem hj, List.map_append, List.sum_append]
  simp
theorem sumH_le (gs : List Gop) (j : Nat) : sumH (gs.take j) ≤ sumH gs := by
  unfold sumH
  have h := congrArg (fun l : List Gop => (l.map (·.e.ha)).sum) (List.take_append_drop j gs)
  simp only [List.map_append, List.sum_append] at h
  omega
set_option maxRecDepth 100000 in
theorem chalves_calls (n : Nat) (g : Gop) (hg : g.Ok n) (w : World) : Calls Tryz.prog 66 #[.agg #[.int .i64 1, .string g.e.name, .slice g.aq g.qs.length g.cq, .int .i64 0, .bool false, .int .u64 0, .int .u64 0]] w fun e w' => e = .returned (.int .i64 g.e.ha) ∧ Below w.heap.size w w' := by
  have g41 := fun w => halves_calls g.e hg.mem w
  generalize g.aq = aq at *
  generalize g.cq = cq at *
  generalize g.qs.length = l at *
  generalize g.e.name = nm at *
  generalize g.e.ha = ha at *
  go_enter Tryz.func66, Tryz.ntmps66
  go_wp2_with fail
  go_at_call 41
  refine (g41 _).mono ?_
  rintro x w1 ⟨rfl, hb⟩
  have HB := Lib.hid ((below1 w (.cells #[.int .i64 1, .string nm, .slice aq l cq, .int .i64 0, .bool false, .int .u64 0, .int .u64 0] 28)).trans (hb.mono (below1 w _).size))
  go_wp2_with fail
  go_ret
  exact ⟨rfl, HB.out⟩
set_option maxRecDepth 100000 in
set_option maxHeartbeats 4000000 in
theorem ccheck_calls (n b : Nat) (hn : n ≤ 64) (hb : b ≤ 64) (a : Option Addr) (c : Nat) (gs : List Gop) (w : World) (h : Circ w n a c gs) (hl : gs.length ≤ 4096) (hs : sumH gs ≤ 36) : Calls Tryz.prog 37 #[.agg #[.int .i64 n, .int .i64 b, .slice a gs.length c]] w fun e w' => e = .returned (.tuple #[.int .i64 0, .int .i64 0]) ∧ Below w.heap.size w w' := by
  have HC := Lib.hid h
  have HS := Lib.hid (BoxSt.start w #[.int .i64 n, .int .i64 b, .slice a gs.length c] 31)
  have hlc : (gs.length : Int) ≤ 4096 := by omega
  have hn0 : decide ((n : Int) < 0) = false := decide_eq_false (by omega)
  have hn1 : decide ((64 : Int) < (n : Int)) = false := decide_eq_false (by omega)
  have hb0 : decide ((b : Int) < 0) = false := decide_eq_false (by omega)
  have hb1 : decide ((64 : Int) < (b : Int)) = false := decide_eq_false (by omega)
  have hl1 : decide ((4096 : Int) < (gs.length : Int)) = false := decide_eq_false (by omega)
  clear h
  go_enter Tryz.func37, Tryz.ntmps37
  go_wp2_with fail
  clear hn0 hn1 hb0 hb1 hl1
  generalize w.alloc (.cells #[.int .i64 n, .int .i64 b, .slice a gs.length c] 31) = W1 at *
  go_loopw [4, 5, 6, 7, 33] (fun v4 _ _ _ k W => ∃ j : Nat, j ≤ gs.length ∧ k = .int .i64 j ∧ v4 = .int .i64 (sumH (gs.take j)) ∧ BoxSt w #[.int .i64 n, .int .i64 b, .slice a gs.length c] 31 W) (fun _ _ _ _ k _ => gs.length - (intOf k).toNat)
  case atStart => exact ⟨0, Nat.zero_le _, rfl, rfl, HS.out⟩
  case round =>
    obtain ⟨j, hj, rfl, rfl, hst⟩ := hrel
    clear HS
    have HS := Lib.hid hst
    clear hst
    by_cases hlt : j < gs.length
    · obtain ⟨bo, oo, hbl, hidx, hc⟩ := (HC.out.below HS.out.below).at j hlt
      obtain ⟨c0, c1, c2, c3, c4, c5, c6⟩ := hc
      have hok := HC.out.ok _ (List.getElem_mem hlt)
      have HIN := Lib.hid (HC.out.ints _ (List.getElem_mem hlt))
      have HT := Lib.hid (sumH_take gs hlt)
      have hle := sumH_le gs (j + 1)
      rw [HT.out] at hle
      generalize gs[j] = g at *
      have g65 := fun w h => cfault_calls n b hb a gs.length c g hok w h
      have g66 := fun w => chalves_calls n g hok w
      simp only [Gop.cs] at g65
      have HS2 := Lib.hid (HS.out.next (below1 wr (.cells #[.int .i64 1, .string g.e.name, .slice g.aq g.qs.length g.cq, .int .i64 0, .bool false, .int .u64 0, .int .u64 0] 28)))
      have HB2 : Hid ((wr.alloc (.cells #[.int .i64 1, .string g.e.name, .slice g.aq g.qs.length g.cq, .int .i64 0, .bool false, .int .u64 0, .int .u64 0] 28)).heap[wr.heap.size]? = _) := Lib.hid (newB _ _ rfl)
      have p0 := cell_at (i := 0) HS.out.blk rfl
      have p1 := cell_at (i := 1) HS.out.blk rfl
      have p2 := cell_at (i := 2) HS.out.blk rfl
      have plt := block_lt p0
      clear hok
      generalize sumH (gs.take j) = sj at *
      generalize g.e.name = nm at *
      generalize hgql : g.qs.length = ql at *
      go_wp2_with fail
      go_at_call 65
      refine (g65 _ (HIN.out.below HS2.out.below)).mono ?_
      rintro x w2 ⟨rfl, hb2⟩
      replace HS2 := Lib.hid (HS2.out.next hb2)
      replace HB2 := Lib.hid (Below.heap_some hb2 HB2.out)
      have q0 := cell_at (i := 0) HB2.out rfl
      have q1 := cell_at (i := 1) HB2.out rfl
      have q2 := cell_at (i := 2) HB2.out rfl
      have q3 := cell_at (i := 3) HB2.out rfl
      have q4 := cell_at (i := 4) HB2.out rfl
      have q5 := cell_at (i := 5) HB2.out rfl
      have q6 := cell_at (i := 6) HB2.out rfl
      clear p0 p1 p2 c0 c1 c2 c3 c4 c5 c6 hb2
      go_wp2_with fail
      go_at_call 66
      refine (g66 _).mono ?_
      rintro x w3 ⟨rfl, hb3⟩
      replace HS2 := Lib.hid (HS2.out.next hb3)
      clear hb3 q0 q1 q2 q3 q4 q5 q6
      have hgt : decide ((36 : Int) < ((sj : Int) + (g.e.ha : Int))) = false := decide_eq_false (by omega)
      go_wp2_with fail
      go_roundw
      case rel => exact ⟨j + 1, by omega, by go_num, by rw [HT.out]; go_num, HS2.out⟩
      case measure => simp [intOf]; omega
    · obtain rfl : j = gs.length := by omega
      go_wp2_with fail
      refine bodyPost_ret (v := .tuple #[.int .i64 0, .int .i64 0]) (by simp [results, Tryz.results37, go_sem, *]) rfl ⟨rfl, HS.out.below⟩
end Go.Proofs.YtlobgpgdknjhlaaGreat.WH
