/- circuit.Clean: closures, walked. -/
import Derived.Test.YtlobgpgdknjhlaaGreatWhT
import Derived.Test.YtlobgpgdknjhlaaGreatWhR
namespace Go.Proofs.YtlobgpgdknjhlaaGreat.WH
open Go Go.RowKit Go.Proofs.YtlobgpgdknjhlaaGreat.F
set_option linter.unusedVariables false
set_option linter.unusedSimpArgs false
attribute [local go_sem] run_store_complex run_store_func
abbrev OPV (nm : ByteArray) (aq : Option Addr) (ql cq : Nat) : Value := .agg #[.int .i64 1, .string nm, .slice aq ql cq, .int .i64 0, .bool false, .int .u64 0, .int .u64 0]
set_option maxRecDepth 100000 in
theorem clean1_calls (nm : ByteArray) (aq : Option Addr) (ql cq : Nat) (w : World) : Calls Tryz.prog 68 #[.agg #[.int .i64 1, .string nm, .slice aq ql cq, .int .i64 0, .bool false, .int .u64 0, .int .u64 0]] w fun e w' => e = .returned (.bool true) ∧ Below w.heap.size w w' := by
  go_enter Tryz.func68, Tryz.ntmps68
  go_wp2_with fail
  go_ret
  exact ⟨rfl, below1 _ _⟩
set_option maxRecDepth 100000 in
theorem all1_calls (nm : ByteArray) (aq : Option Addr) (ql cq p : Nat) (w : World) (hp : w.cell? ⟨p, 0, none⟩ = some (.func (.func 68) #[] #[])) : Calls Tryz.prog 93 #[.agg #[.int .i64 1, .string nm, .slice aq ql cq, .int .i64 0, .bool false, .int .u64 0, .int .u64 0], .pointer (some ⟨p, 0, none⟩)] w fun e w' => e = .returned (.bool false) ∧ Below w.heap.size w w' := by
  have g := clean1_calls nm aq ql cq
  have plt := block_lt hp
  go_enter Tryz.func93, Tryz.ntmps93
  go_wp2_with fail
  go_at_call 68
  refine (g _).mono ?_
  rintro x w1 ⟨rfl, hb⟩
  have HB := Lib.hid ((below1 w (.cells #[.int .i64 1, .string nm, .slice aq ql cq, .int .i64 0, .bool false, .int .u64 0, .int .u64 0] 28)).trans (hb.mono (below1 w _).size))
  go_wp2_with fail
  go_ret
  exact ⟨rfl, HB.out⟩
set_option maxRecDepth 100000 in
set_option maxHeartbeats 1000000 in
theorem indexf_calls (n p : Nat) (a : Option Addr) (c : Nat) (gs : List Gop) (w : World) (h : Circ w n a c gs) (hp : w.cell? ⟨p, 0, none⟩ = some (.func (.func 68) #[] #[])) : Calls Tryz.prog 114 #[.slice a gs.length c, .func (.func 93) #[] #[.pointer (some ⟨p, 0, none⟩)]] w fun e w' => e = .returned (.int .i64 (-1)) ∧ Below w.heap.size w w' := by
  have HC := Lib.hid h
  have HP := Lib.hid hp
  have plt := block_lt hp
  have hlc : (gs.length : Int) ≤ 9223372036854775807 := by have := h.len; have := h.cap; omega
  clear h hp
  go_enter Tryz.func114, Tryz.ntmps114
  go_wp2_with fail
  go_loopw [5, 8] (fun _ k W => ∃ j : Nat, j ≤ gs.length ∧ k = .int .i64 j ∧ Below w.heap.size w W) (fun _ k _ => gs.length - (intOf k).toNat)
  case atStart => exact ⟨0, Nat.zero_le _, rfl, Below.refl _ _⟩
  case round =>
    obtain ⟨j, hj, rfl, hbw⟩ := hrel
    have HB := Lib.hid hbw
    clear hbw
    by_cases hlt : j < gs.length
    · obtain ⟨bo, oo, hbl, hidx, c0, c1, c2, c3, c4, c5, c6⟩ := (HC.out.below HB.out).at j hlt
      have g := all1_calls gs[j].e.name gs[j].aq gs[j].qs.length gs[j].cq p wr ((HB.out.cell (p := ⟨p, 0, none⟩) plt).trans HP.out)
      generalize gs[j] = q at *
      go_wp2_with fail
      go_at_call 93
      refine g.mono ?_
      rintro x w2 ⟨rfl, hb⟩
      have HB2 := Lib.hid (HB.out.trans (hb.mono HB.out.size))
      clear hb c0 c1 c2 c3 c4 c5 c6 hidx
      go_wp2_with fail
      go_roundw
      case rel => exact ⟨j + 1, by omega, by go_num, HB2.out⟩
      case measure => simp [intOf]; omega
    · obtain rfl : j = gs.length := by omega
      go_wp2_with fail
      go_ret
      exact ⟨rfl, HB.out⟩
set_option maxRecDepth 100000 in
theorem containsf_calls (n p : Nat) (a : Option Addr) (c : Nat) (gs : List Gop) (w : World) (h : Circ w n a c gs) (hp : w.cell? ⟨p, 0, none⟩ = some (.func (.func 68) #[] #[])) : Calls Tryz.prog 92 #[.slice a gs.length c, .func (.func 93) #[] #[.pointer (some ⟨p, 0, none⟩)]] w fun e w' => e = .returned (.bool false) ∧ Below w.heap.size w w' := by
  have g := indexf_calls n p a c gs w h hp
  clear h hp
  go_enter Tryz.func92, Tryz.ntmps92
  go_wp2_with fail
  go_at_call 114
  refine g.mono ?_
  rintro x w2 ⟨rfl, hb⟩
  have HB := Lib.hid hb
  clear hb
  go_wp2_with fail
  go_ret
  exact ⟨rfl, HB.out⟩
/-- The two boxes of `all`. -/
structure AllB (w : World) (n b : Nat) (a : Option Addr) (l c : Nat) (W : World) : Prop where
  below : Below w.heap.size w W
  circ : W.heap[w.heap.size]? = some (.cells #[.int .i64 n, .int .i64 b, .slice a l c] 31)
  fn : W.heap[w.heap.size + 1]? = some (.cells #[.func (.func 68) #[] #[]] 135)
theorem AllB.start (w : World) (n b : Nat) (a : Option Addr) (l c : Nat) : AllB w n b a l c ((w.alloc (.cells #[.int .i64 n, .int .i64 b, .slice a l c] 31)).alloc (.cells #[.func (.func 68) #[] #[]] 135)) :=
  ⟨(below1 _ _).trans ((below1 _ _).mono (by simp)), Below.heap_some (below1 _ _) (newB _ _ rfl), newB _ _ (by simp)⟩
theorem AllB.next {w W W' : World} {n b l c : Nat} {a : Option Addr} (h : AllB w n b a l c W) (hb : Below W.heap.size W W') : AllB w n b a l c W' :=
  ⟨h.below.trans (hb.mono h.below.size), Below.heap_some hb h.circ, Below.heap_some hb h.fn⟩
set_option maxRecDepth 100000 in
set_option maxHeartbeats 1000000 in
theorem all_calls (n b : Nat) (hn : n ≤ 64) (hb : b ≤ 64) (a : Option Addr) (c : Nat) (gs : List Gop) (w : World) (h : Circ w n a c gs) (hl : gs.length ≤ 4096) (hs : sumH gs ≤ 36) : Calls Tryz.prog 67 #[.agg #[.int .i64 n, .int .i64 b, .slice a gs.length c], .func (.func 68) #[] #[]] w fun e w' => e = .returned (.tuple #[.bool true, .int .i64 0]) ∧ Below w.heap.size w w' := by
  have HC := Lib.hid h
  have g37 := fun w h => ccheck_calls n b hn hb a c gs w h hl hs
  have g92 := fun p w h hp => containsf_calls n p a c gs w h hp
  have HS := Lib.hid (AllB.start w n b a gs.length c)
  have hmf : ∀ (q : Value) (w : World), (Instr.makeFunc (.func 93) #[] #[q]).run Tryz.prog w = .ok (.func (.func 93) #[] #[q]) w := fun q w => rfl
  clear h
  go_enter Tryz.func67, Tryz.ntmps67
  go_wp2_with fail
  generalize (w.alloc (.cells #[.int .i64 n, .int .i64 b, .slice a gs.length c] 31)).alloc (.cells #[.func (.func 68) #[] #[]] 135) = W1 at *
  go_at_call 37
  refine (g37 _ (HC.out.below HS.out.below)).mono ?_
  rintro x w2 ⟨rfl, hb2⟩
  replace HS := Lib.hid (HS.out.next hb2)
  clear hb2
  have c2 := cell_at (i := 2) HS.out.circ rfl
  go_wp2_with fail
  go_at_call 92
  refine (g92 _ _ (HC.out.below HS.out.below) (cell_at (i := 0) HS.out.fn rfl)).mono ?_
  rintro x w3 ⟨rfl, hb3⟩
  replace HS := Lib.hid (HS.out.next hb3)
  clear hb3 c2
  go_wp2_with fail
  refine bodyPost_ret (v := .tuple #[.bool true, .int .i64 0]) (by simp [results, Tryz.results67, go_sem, *]) rfl ⟨rfl, HS.out.below⟩
set_option maxRecDepth 100000 in
theorem clean_calls (n b : Nat) (hn : n ≤ 64) (hb : b ≤ 64) (a : Option Addr) (c : Nat) (gs : List Gop) (w : World) (h : Circ w n a c gs) (hl : gs.length ≤ 4096) (hs : sumH gs ≤ 36) : Calls Tryz.prog 38 #[.agg #[.int .i64 n, .int .i64 b, .slice a gs.length c]] w fun e w' => e = .returned (.tuple #[.bool true, .int .i64 0]) ∧ Below w.heap.size w w' := by
  have HC := Lib.hid h
  have g := fun w h => all_calls n b hn hb a c gs w h hl hs
  clear h
  go_enter Tryz.func38, Tryz.ntmps38
  go_wp2_with fail
  go_at_call 67
  refine (g _ (HC.out.below (below1 _ _))).mono ?_
  rintro x w2 ⟨rfl, hb2⟩
  have HB := Lib.hid ((below1 w (.cells #[.int .i64 n, .int .i64 b, .slice a gs.length c] 31)).trans (hb2.mono (below1 w _).size))
  clear hb2
  go_wp2_with fail
  refine bodyPost_ret (v := .tuple #[.bool true, .int .i64 0]) (by simp [results, Tryz.results38, go_sem, *]) rfl ⟨rfl, HB.out⟩
end Go.Proofs.YtlobgpgdknjhlaaGreat.WH
