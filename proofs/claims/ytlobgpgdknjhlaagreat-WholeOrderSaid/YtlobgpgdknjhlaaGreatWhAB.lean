/- Same, within, ran: walked. -/
import Derived.Test.YtlobgpgdknjhlaaGreatWhAA
namespace Go.Proofs.YtlobgpgdknjhlaaGreat.WH
open Go Go.RowKit Go.Proofs.YtlobgpgdknjhlaaGreat.F
set_option linter.unusedVariables false
set_option linter.unusedSimpArgs false
attribute [local go_sem] run_store_complex run_store_func
set_option maxRecDepth 100000 in
theorem neqR (r : Rg) (h : r.Pt) (W : World) : (binOp .neq 65 (.agg #[.complex .f64 (Fl r.a) (Fl r.b), .complex .f64 (Fl r.c) (Fl r.d)]) (.agg #[.complex .f64 (Fl r.a) (Fl r.b), .complex .f64 (Fl r.c) (Fl r.d)])).run Tryz.prog W = .ok (.bool false) W := by
  have hS : Tryz.prog.underlying 65 = some (.struct (Tryz.prog.fieldsOf 65)) := by kernel_rfl
  have hp : Tryz.prog.stoodInHeld 65 = false := by kernel_rfl
  have h63 := eq63
  have e1 := fl_eqb h.a h.a
  have e2 := fl_eqb h.b h.b
  have e3 := fl_eqb h.c h.c
  have e4 := fl_eqb h.d h.d
  simp only [beq_self_eq_true] at e1 e2 e3 e4
  rw [run_neq_struct, show (10000 : Nat) = 9999 + 1 from rfl, run_equalIn_agg W 9999 65 _ _ hS hp]
  simp only [Program.fieldsOf, Tryz.underlying65]
  generalize Fl r.a = x at *
  generalize Fl r.b = y at *
  generalize Fl r.c = z at *
  generalize Fl r.d = t at *
  go_simp
/-- The two boxes. -/
structure Sm (w : World) (n k : Nat) (a1 : Option Addr) (l c1 : Nat) (a2 : Option Addr) (c2 : Nat) (W : World) : Prop where
  below : Below w.heap.size w W
  b1 : W.heap[w.heap.size]? = some (.cells #[.int .i64 n, .int .i64 k, .slice a1 l c1] 37)
  b2 : W.heap[w.heap.size + 1]? = some (.cells #[.int .i64 n, .int .i64 k, .slice a2 l c2] 37)
theorem Sm.start (w : World) (n k : Nat) (a1 : Option Addr) (l c1 : Nat) (a2 : Option Addr) (c2 : Nat) : Sm w n k a1 l c1 a2 c2 ((w.alloc (.cells #[.int .i64 n, .int .i64 k, .slice a1 l c1] 37)).alloc (.cells #[.int .i64 n, .int .i64 k, .slice a2 l c2] 37)) :=
  ⟨(below1 _ _).trans ((below1 _ _).mono (by simp)), Below.heap_some (below1 _ _) (newB _ _ rfl), newB _ _ (by simp)⟩
theorem Sm.next {w W W' : World} {n k l c1 c2 : Nat} {a1 a2 : Option Addr} (h : Sm w n k a1 l c1 a2 c2 W) (hb : Below W.heap.size W W') : Sm w n k a1 l c1 a2 c2 W' :=
  ⟨h.below.trans (hb.mono h.below.size), Below.heap_some hb h.b1, Below.heap_some hb h.b2⟩
set_option maxRecDepth 100000 in
set_option maxHeartbeats 2000000 in
theorem same_calls (n k : Nat) (a1 : Option Addr) (c1 : Nat) (a2 : Option Addr) (c2 : Nat) (rs : List Rg) (w : World) (h1 : Rings w a1 c1 rs) (h2 : Rings w a2 c2 rs) : Calls Tryz.prog 12 #[.agg #[.int .i64 n, .int .i64 k, .slice a1 rs.length c1], .agg #[.int .i64 n, .int .i64 k, .slice a2 rs.length c2]] w fun e w' => e = .returned (.bool true) ∧ Below w.heap.size w w' := by
  have H1 := Lib.hid h1
  have H2 := Lib.hid h2
  have HS := Lib.hid (Sm.start w n k a1 rs.length c1 a2 c2)
  have hlc : (rs.length : Int) ≤ 9223372036854775807 := by have := h1.len; have := h1.cap; omega
  have hnn : ((n : Int) != (n : Int)) = false := by simp
  have hkk : ((k : Int) != (k : Int)) = false := by simp
  have hll : ((rs.length : Int) != (rs.length : Int)) = false := by simp
  clear h1 h2
  go_enter Tryz.func12, Tryz.ntmps12
  go_wp2_with fail
  generalize (w.alloc (.cells #[.int .i64 n, .int .i64 k, .slice a1 rs.length c1] 37)).alloc (.cells #[.int .i64 n, .int .i64 k, .slice a2 rs.length c2] 37) = W1 at *
  go_loopw [5] (fun k' W => ∃ j : Nat, j ≤ rs.length ∧ k' = .int .i64 j ∧ Sm w n k a1 rs.length c1 a2 c2 W) (fun k' _ => rs.length - (intOf k').toNat)
  case atStart => exact ⟨0, Nat.zero_le _, rfl, HS.out⟩
  case round =>
    obtain ⟨j, hj, rfl, hst⟩ := hrel
    clear HS
    have HS := Lib.hid hst
    clear hst
    have p2 := cell_at (i := 2) HS.out.b1 rfl
    have q2 := cell_at (i := 2) HS.out.b2 rfl
    by_cases hlt : j < rs.length
    · obtain ⟨b, o, hbl, hidx, d0, d1⟩ := (H1.out.below HS.out.below).at j hlt
      obtain ⟨b', o', hbl', hidx', d0', d1'⟩ := (H2.out.below HS.out.below).at j hlt
      have hpt := H1.out.pt _ (List.getElem_mem hlt)
      have heq := neqR rs[j] hpt
      clear hpt
      generalize Fl rs[j].a = x at *
      generalize Fl rs[j].b = y at *
      generalize Fl rs[j].c = z at *
      generalize Fl rs[j].d = t at *
      go_wp2_with fail
      go_quiet (fail)
      go_wp2_with fail
      go_roundw
      case rel => exact ⟨j + 1, by omega, by go_num, HS.out.next (belowD (Below.refl _ _) _)⟩
      case measure => simp [intOf]; omega
    · obtain rfl : j = rs.length := by omega
      go_wp2_with fail
      go_ret
      exact ⟨rfl, HS.out.below⟩
theorem within_eq (n x : Nat) (hn : n ≤ 10) (hx : x < 2 ^ 64) : Go.bits .and .u64 (x : Int) (((2 ^ n : Nat) : Int) - 1) = ((x % 2 ^ n : Nat) : Int) := by
  have h1 : 1 ≤ 2 ^ n := Nat.one_le_two_pow
  have h2 : 2 ^ n ≤ 1024 := pow_le hn
  rw [show (((2 ^ n : Nat) : Int) - 1) = ((2 ^ n - 1 : Nat) : Int) by omega, B.and_u hx (by omega), Nat.and_two_pow_sub_one_eq_mod]
theorem pow_shu {n : Nat} (hn : n ≤ 10) : IntKind.u64.wrap (2 ^ n) = (((2 ^ n : Nat) : Int)) := by
  rw [show ((2 : Int) ^ n) = ((2 ^ n : Nat) : Int) by push_cast; rfl]
  exact B.wrapn (Nat.pow_lt_pow_right (by decide) (by omega))
set_option maxRecDepth 100000 in
theorem within_calls (n b x : Nat) (hn : n ≤ 10) (hx : x < 2 ^ 64) (a : Option Addr) (l c : Nat) (w : World) : Calls Tryz.prog 9 #[.agg #[.int .i64 n, .int .i64 b, .slice a l c], .int .u64 x] w fun e w' => e = .returned (.int .u64 (x % 2 ^ n : Nat)) ∧ Below w.heap.size w w' := by
  have h1 := pow_shu hn
  have h2 := within_eq n x hn hx
  have h3 : 2 ^ n ≤ 1024 := pow_le hn
  have h4 : 1 ≤ 2 ^ n := Nat.one_le_two_pow
  generalize 2 ^ n = N at *
  go_enter Tryz.func9, Tryz.ntmps9
  go_wp2_with fail
  go_ret
  exact ⟨rfl, below1 _ _⟩
end Go.Proofs.YtlobgpgdknjhlaaGreat.WH
