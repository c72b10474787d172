/- The package circuit: one operation's check, walked. -/
import Derived.Test.YtlobgpgdknjhlaaGreatWhQ
import Derived.Deep.CutRange
import Derived.BigQuiet
namespace Go.Proofs.YtlobgpgdknjhlaaGreat.WH
open Go Go.RowKit Go.Proofs.YtlobgpgdknjhlaaGreat.F
set_option linter.unusedVariables false
set_option linter.unusedSimpArgs false
attribute [local go_sem] run_store_complex run_store_func
/-- An operation: a gate on qubits, without a condition. -/
structure Gop where
  e : En
  aq : Option Addr
  cq : Nat
  qs : List Nat
structure Gop.Ok (n : Nat) (g : Gop) : Prop where
  mem : g.e ∈ gates
  len : g.qs.length = g.e.ar
  lt : ∀ q ∈ g.qs, q < n
  nd : g.qs.Nodup
def Gop.cs (g : Gop) : List Value := [.int .i64 1, .string g.e.name, .slice g.aq g.qs.length g.cq, .int .i64 0, .bool false, .int .u64 0, .int .u64 0]
set_option maxRecDepth 100000 in
theorem index_calls (a : Option Addr) (c : Nat) (ps : List Nat) (q : Nat) (w : World) (h : Ints w a c ps) (hn : ∀ i (h : i < ps.length), ps[i] ≠ q) : Calls Tryz.prog 94 #[.slice a ps.length c, .int .i64 q] w fun e w' => e = .returned (.int .i64 (-1)) ∧ w' = w := by
  have HI := Lib.hid h
  have HN := Lib.hid hn
  have hlc : (ps.length : Int) ≤ 9223372036854775807 := by have := h.len; have := h.cap; omega
  clear h hn
  go_enter Tryz.func94, Tryz.ntmps94
  go_wp2_with fail
  go_loopw [5, 8] (fun _ k W => ∃ j : Nat, j ≤ ps.length ∧ k = .int .i64 j ∧ W = w) (fun _ k _ => ps.length - (intOf k).toNat)
  case atStart => exact ⟨0, Nat.zero_le _, rfl, rfl⟩
  case round =>
    obtain ⟨j, hj, rfl, rfl⟩ := hrel
    by_cases hlt : j < ps.length
    · obtain ⟨b, o, hbl, hidx, hc⟩ := HI.out.at j hlt
      have hne := HN.out j hlt
      generalize ps[j] = p at *
      have hpq : ((q : Int) == (p : Int)) = false := by rw [beq_eq_false_iff_ne]; omega
      go_wp2_with fail
      go_roundw
      case rel => exact ⟨j + 1, by omega, by go_num, by first | rfl | trivial⟩
      case measure => simp [intOf]; omega
    · obtain rfl : j = ps.length := by omega
      go_wp2_with fail
      go_ret
      exact ⟨rfl, rfl⟩
set_option maxRecDepth 100000 in
theorem contains_calls (a : Option Addr) (c : Nat) (ps : List Nat) (q : Nat) (w : World) (h : Ints w a c ps) (hn : ∀ i (h : i < ps.length), ps[i] ≠ q) : Calls Tryz.prog 70 #[.slice a ps.length c, .int .i64 q] w fun e w' => e = .returned (.bool false) ∧ w' = w := by
  have g := index_calls a c ps q w h hn
  clear h hn
  go_enter Tryz.func70, Tryz.ntmps70
  go_wp2_with fail
  go_at_call 94
  refine g.mono ?_
  rintro e w' ⟨rfl, rfl⟩
  go_wp2_with fail
  go_ret
  exact ⟨rfl, rfl⟩
theorem none_over (z : Nat) (hz : z < 2 ^ 64) : Go.bits .andNot .u64 0 (z : Int) = 0 := by
  obtain ⟨c, e, hc, hb⟩ := B.andNot_u (a := 0) (b := z) (by decide) hz
  rw [show (0 : Int) = ((0 : Nat) : Int) from rfl, e]
  congr 1
  refine Nat.eq_of_testBit_eq fun i => ?_
  rw [hb]
  simp
theorem wrap_nat (z : Int) : ∃ y : Nat, y < 2 ^ 64 ∧ IntKind.u64.wrap z = (y : Int) := by
  refine ⟨(z % 18446744073709551616).toNat, by omega, ?_⟩
  rw [B.wrap_u64]
  omega
/-- The two boxes. -/
structure FBox (w : World) (n b : Nat) (sv : Option Addr) (sl sc : Nat) (cs : List Value) (W : World) : Prop where
  below : Below w.heap.size w W
  circ : W.heap[w.heap.size]? = some (.cells #[.int .i64 n, .int .i64 b, .slice sv sl sc] 31)
  op : W.heap[w.heap.size + 1]? = some (.cells cs.toArray 28)
theorem FBox.start (w : World) (n b : Nat) (sv : Option Addr) (sl sc : Nat) (cs : List Value) : FBox w n b sv sl sc cs ((w.alloc (.cells #[.int .i64 n, .int .i64 b, .slice sv sl sc] 31)).alloc (.cells cs.toArray 28)) :=
  ⟨(below1 _ _).trans ((below1 _ _).mono (by simp)), Below.heap_some (below1 _ _) (newB _ _ rfl), newB _ _ (by simp)⟩
theorem FBox.next {w W W' : World} {n b sl sc : Nat} {sv : Option Addr} {cs : List Value} (h : FBox w n b sv sl sc cs W) (hb : Below W.heap.size W W') : FBox w n b sv sl sc cs W' :=
  ⟨h.below.trans (hb.mono h.below.size), Below.heap_some hb h.circ, Below.heap_some hb h.op⟩
set_option maxRecDepth 100000 in
set_option maxHeartbeats 4000000 in
theorem cfault_calls (n b : Nat) (hb : b ≤ 64) (sv : Option Addr) (sl sc : Nat) (g : Gop) (hg : g.Ok n) (w : World) (hi : Ints w g.aq g.cq g.qs) : Calls Tryz.prog 65 #[.agg #[.int .i64 n, .int .i64 b, .slice sv sl sc], .agg g.cs.toArray] w fun e w' => e = .returned (.int .i64 0) ∧ Below w.heap.size w w' := by
  obtain ⟨e, aq, cq, qs⟩ := g
  obtain ⟨he, hl, hq, hd⟩ := hg
  simp only [Gop.cs] at *
  have g69 := fun w => arity_calls e he w
  have har := ar_le e he
  have hs9 := gates_size e he
  have HI := Lib.hid hi
  have HN := Lib.hid hq
  have HD := Lib.hid hd
  have HS := Lib.hid (FBox.start w n b sv sl sc [.int .i64 1, .string e.name, .slice aq qs.length cq, .int .i64 0, .bool false, .int .u64 0, .int .u64 0])
  have HL := Lib.hid hl
  have hl1 : 1 ≤ qs.length := by omega
  have hl3 : qs.length ≤ 3 := by omega
  obtain ⟨bq, oq, rfl⟩ : ∃ b o, aq = some ⟨b, o, none⟩ := by
    rcases hi.at_ with e | ⟨b, off, e, hc⟩
    · rw [e] at hl1; simp at hl1
    · exact ⟨b, off, e⟩
  have hcap := hi.len
  have hcap2 := hi.cap
  rw [← hl] at g69
  clear hi hq hd hl har
  go_enter Tryz.func65, Tryz.ntmps65
  obtain ⟨z1, hz1, hz2⟩ := wrap_nat (IntKind.u64.wrap (2 ^ b) - 1)
  have HZ := Lib.hid (And.intro hz1 hz2)
  clear hz1 hz2
  go_upto_if 31 with (fail)
  go_cut [6] from 32 (fun v6 W => ∃ z : Nat, z < 2 ^ 64 ∧ v6 = .int .u64 z ∧ FBox w n b sv sl sc [.int .i64 1, .string e.name, .slice (some ⟨bq, oq, none⟩) qs.length cq, .int .i64 0, .bool false, .int .u64 0, .int .u64 0] W)
  case first =>
    by_cases h64 : b = 64
    · have h64' : ((b : Int) == 64) = true := by rw [beq_iff_eq]; omega
      go_wp2_with fail
      go_meet
      exact ⟨18446744073709551615, by decide, rfl, HS.out⟩
    · have h64' : ((b : Int) == 64) = false := by rw [beq_eq_false_iff_ne]; omega
      go_wp2_with fail
      go_meet
      exact ⟨z1, HZ.out.1, by rw [HZ.out.2], HS.out⟩
  case rest =>
    obtain ⟨z, hz, rfl, hst⟩ := hcut
    clear HS HZ
    have HS := Lib.hid hst
    clear hst
    have hno := none_over z hz
    have hno2 := none_over 0 (by decide)
    clear hz
    have c0 := cell_at (i := 0) HS.out.circ rfl
    have c1 := cell_at (i := 1) HS.out.circ rfl
    have p0 := cell_at (i := 0) HS.out.op rfl
    have p1 := cell_at (i := 1) HS.out.op rfl
    have p2 := cell_at (i := 2) HS.out.op rfl
    have p3 := cell_at (i := 3) HS.out.op rfl
    have p4 := cell_at (i := 4) HS.out.op rfl
    have p5 := cell_at (i := 5) HS.out.op rfl
    have p6 := cell_at (i := 6) HS.out.op rfl
    go_wp2_with fail
    go_at_call 69
    refine (g69 _).mono ?_
    rintro x w2 ⟨rfl, hb2⟩
    replace HS := Lib.hid (HS.out.next hb2)
    have HI2 := Lib.hid ((HI.out.below HS.out.below))
    clear c0 c1 p0 p1 p2 p3 p4 p5 p6 g69 he hb2 hno hno2 HI
    have c0 := cell_at (i := 0) HS.out.circ rfl
    have p0 := cell_at (i := 0) HS.out.op rfl
    have p2 := cell_at (i := 2) HS.out.op rfl
    have p3 := cell_at (i := 3) HS.out.op rfl
    have hne : ((qs.length : Int) == 0) = false := by rw [beq_eq_false_iff_ne]; omega
    go_wp2_with fail
    go_loopw [9, 99] (fun _ k W => ∃ j : Nat, j ≤ qs.length ∧ k = .int .i64 j ∧ W = w2) (fun _ k _ => qs.length - (intOf k).toNat)
    case atStart => exact ⟨0, Nat.zero_le _, rfl, rfl⟩
    case round =>
      obtain ⟨j, hj, rfl, rfl⟩ := hrel
      by_cases hlt : j < qs.length
      · obtain ⟨b', o, hbl, hidx, hc⟩ := HI2.out.at j hlt
        have hq := HN.out _ (List.getElem_mem hlt)
        generalize qs[j] = q at *
        have hq0 : decide ((q : Int) < 0) = false := decide_eq_false (by omega)
        have hq1 : decide ((n : Int) ≤ (q : Int)) = false := decide_eq_false (by omega)
        go_wp2_with fail
        go_roundw
        case rel => exact ⟨j + 1, by omega, by go_num, by first | rfl | trivial⟩
        case measure => simp [intOf]; omega
      · obtain rfl : j = qs.length := by omega
        go_wp2_with fail
        go_loopw [10, 11, 130] (fun _ _ k W => ∃ j : Nat, j ≤ qs.length ∧ k = .int .i64 j ∧ W = wr) (fun _ _ k _ => qs.length - (intOf k).toNat)
        case atStart => exact ⟨0, Nat.zero_le _, rfl, rfl⟩
        case round =>
          obtain ⟨j, hj, rfl, rfl⟩ := hrel
          by_cases hlt : j < qs.length
          · obtain ⟨b', o, hbl, hidx, hc⟩ := HI2.out.at j hlt
            have HNE : ∀ i (h : i < (qs.take j).length), (qs.take j)[i] ≠ qs[j] := fun i h e => List.Nodup.not_mem_take HD.out hlt (e ▸ List.getElem_mem h)
            have g70 := contains_calls _ cq (qs.take j) qs[j] wr (HI2.out.take j) HNE
            have hTl : (qs.take j).length = j := by rw [List.length_take]; omega
            rw [hTl] at g70
            clear HNE hTl
            generalize qs[j] = q at *
            go_wp2_with fail
            go_at_call 70
            refine g70.mono ?_
            rintro x w3 ⟨rfl, rfl⟩
            go_wp2_with fail
            go_roundw
            case rel => exact ⟨j + 1, by omega, by go_num, by first | rfl | trivial⟩
            case measure => simp [intOf]; omega
          · obtain rfl : j = qs.length := by omega
            go_wp2_with fail
            go_ret
            exact ⟨rfl, HS.out.below⟩
end Go.Proofs.YtlobgpgdknjhlaaGreat.WH
