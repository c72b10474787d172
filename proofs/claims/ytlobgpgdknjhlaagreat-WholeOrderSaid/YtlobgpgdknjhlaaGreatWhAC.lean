/- ran: walked. -/
import Derived.Test.YtlobgpgdknjhlaaGreatWhAB
import Derived.Deep.RegionWith
import Derived.Deep.CutRange
namespace Go.Proofs.YtlobgpgdknjhlaaGreat.WH
open Go Go.RowKit Go.Proofs.YtlobgpgdknjhlaaGreat.F
set_option linter.unusedVariables false
set_option linter.unusedSimpArgs false
attribute [local go_sem] run_store_complex run_store_func
abbrev Z37 : Obj := .cells #[.int .i64 0, .int .i64 0, .slice none 0 0] 37
structure C0 (w : World) (n b : Nat) (a : Option Addr) (l c : Nat) (W : World) : Prop where
  below : Below w.heap.size w W
  circ : W.heap[w.heap.size]? = some (.cells #[.int .i64 n, .int .i64 b, .slice a l c] 31)
  res : W.heap[w.heap.size + 1]? = some Z37
theorem C0.start (w : World) (n b : Nat) (a : Option Addr) (l c : Nat) : C0 w n b a l c ((w.alloc (.cells #[.int .i64 n, .int .i64 b, .slice a l c] 31)).alloc Z37) :=
  ⟨(below1 _ _).trans ((below1 _ _).mono (by simp)), Below.heap_some (below1 _ _) (newB _ _ rfl), newB _ _ (by simp)⟩
section
variable {w W W' : World} {n b l c : Nat} {a : Option Addr}
theorem C0.next (h : C0 w n b a l c W) (hb : Below W.heap.size W W') : C0 w n b a l c W' :=
  ⟨h.below.trans (hb.mono h.below.size), Below.heap_some hb h.circ, Below.heap_some hb h.res⟩
/-- The state in its variable. -/
structure C1 (w : World) (n b : Nat) (a : Option Addr) (l c b6 B N : Nat) (s : Nat × List Rg) (W : World) : Prop where
  c0 : C0 w n b a l c W
  var : W.heap[b6]? = some (.cells #[.int .i64 n, .int .i64 s.1, .slice (some ⟨B, 0, none⟩) N N] 37)
  own : OwnR W B s.2
  gt : w.heap.size + 1 < b6
  gtB : w.heap.size + 1 < B
theorem C1.fin1 {B N : Nat} {s : Nat × List Rg} (h : C0 w n b a l c W) (ho : OwnR W B s.2) (hB : w.heap.size + 1 < B) : ∃ b6 B', Value.pointer (some ⟨W.heap.size, 0, none⟩) = Value.pointer (some ⟨b6, 0, none⟩) ∧ C1 w n b a l c b6 B' N s (W.alloc (.cells #[.int .i64 n, .int .i64 s.1, .slice (some ⟨B, 0, none⟩) N N] 37)) :=
  ⟨_, _, rfl, h.next (below1 _ _), newB _ _ rfl, ho.below (below1 _ _), (Array.getElem?_eq_some_iff.1 h.res).1, hB⟩
theorem C1.fin2 {B N z : Nat} {s : Nat × List Rg} (h : C0 w n b a l c W) (ho : OwnR W B s.2) (hB : w.heap.size + 1 < B) (hz : W.heap[z]? = some Z37) (hz1 : w.heap.size + 1 < z) : ∃ b6 B', Value.pointer (some ⟨z, 0, none⟩) = Value.pointer (some ⟨b6, 0, none⟩) ∧ C1 w n b a l c b6 B' N s (((W.setCell ⟨z, 0, none⟩ (.int .i64 n)).setCell ⟨z, 1, none⟩ (.int .i64 s.1)).setCell ⟨z, 2, none⟩ (.slice (some ⟨B, 0, none⟩) N N)) := by
  have hne : B ≠ z := kinds_ne ho hz (by decide)
  refine ⟨_, _, rfl, ⟨put3 h.below (by omega) _ _ _, ?_, ?_⟩, ?_, ((ho.far hne).far hne).far hne, hz1, hB⟩
  · rw [setCell_far (by omega), setCell_far (by omega), setCell_far (by omega)]; exact h.circ
  · rw [setCell_far (by omega), setCell_far (by omega), setCell_far (by omega)]; exact h.res
  · rw [setCell_block (setCell_block (setCell_block hz _) _) _]
    rfl
end
theorem basis_good (n x : Nat) (hx : x < 2 ^ n) : Good n 0 (0, basisR n x) := by
  refine ⟨by simp [basisR], fun r hr => ?_, Nat.le_refl _, .inl rfl⟩
  rcases List.mem_or_eq_of_mem_set hr with h | rfl
  · rw [(List.mem_replicate.1 h).2]; exact Bd.nil _
  · exact Bd.one (by decide)
theorem basis_len (n x : Nat) : (basisR n x).length = 2 ^ n := by simp [basisR]
theorem run_len (n x : Nat) (gs : List Gop) (hx : x < 2 ^ n) (hg : ∀ g ∈ gs, g.Ok n) : (runR (0, basisR n x) gs).2.length = 2 ^ n := by
  have h := (basis_good n x hx).run hg gs.length (Nat.le_refl _)
  rw [List.take_length] at h
  exact h.len
set_option maxRecDepth 100000 in
set_option maxHeartbeats 4000000 in
theorem ran_calls (n b x : Nat) (hn : n ≤ 10) (hb : b ≤ 64) (hx : x < 2 ^ 64) (a : Option Addr) (c : Nat) (gs : List Gop) (w : World) (hc : Circ w n a c gs) (hl : gs.length ≤ 4096) (hs : sumH gs ≤ 36) :
    Calls Tryz.prog 11 #[.agg #[.int .i64 n, .int .i64 b, .slice a gs.length c], .int .u64 x] w fun e w' =>
      ∃ B, e = .returned (.tuple #[.agg #[.int .i64 n, .int .i64 (runR (0, basisR n (x % 2 ^ n)) gs).1, .slice (some ⟨B, 0, none⟩) (2 ^ n) (2 ^ n)], .bool true]) ∧ OwnR w' B (runR (0, basisR n (x % 2 ^ n)) gs).2 ∧ w.heap.size ≤ B ∧ Below w.heap.size w w' := by
  have HC := Lib.hid hc
  have HS := Lib.hid (C0.start w n b a gs.length c)
  have g9 := fun w => within_calls n b x hn hx a gs.length c w
  have hxn : x % 2 ^ n < 2 ^ n := Nat.mod_lt _ (Nat.two_pow_pos n)
  have g14 := fun w => basis_calls n (x % 2 ^ n) hn hxn w
  have HRL := Lib.hid (run_len n (x % 2 ^ n) gs hxn hc.ok)
  have g15 := fun sa sc w h1 h2 => run_calls n 0 0 b hn hb sa sc (basisR n (x % 2 ^ n)) a c gs w (basis_good n _ hxn) h1 h2 hl hs (by omega)
  have HBP : Hid (∀ W B, OwnR W B (basisR n (x % 2 ^ n)) → Rings W (some ⟨B, 0, none⟩) (2 ^ n) (basisR n (x % 2 ^ n))) := Lib.hid fun W B h => by
    have h1 := h.rings (fun r hr => ((basis_good n _ hxn).bd r hr).pt (by decide)) (by rw [basis_len]; have := pow_le hn; omega)
    rw [basis_len] at h1
    exact h1
  simp only [basis_len] at g15
  generalize x % 2 ^ n = y at *
  generalize 2 ^ n = N at *
  clear hc
  go_enter Tryz.func11, Tryz.ntmps11
  go_wp2_with fail
  generalize (w.alloc (.cells #[.int .i64 n, .int .i64 b, .slice a gs.length c] 31)).alloc (.cells #[.int .i64 0, .int .i64 0, .slice none 0 0] 37) = W0 at *
  have p0 := cell_at (i := 0) HS.out.circ rfl
  have p1 := cell_at (i := 1) HS.out.circ rfl
  have p2 := cell_at (i := 2) HS.out.circ rfl
  have plt := block_lt p0
  go_upto_region 1 with fail
  go_cut [6, 7] from 10 to 18 (fun v6 v7 W => v7 = .int .i64 0 ∧ ∃ b6 B, v6 = .pointer (some ⟨b6, 0, none⟩) ∧ C1 w n b a gs.length c b6 B N (0, basisR n y) W)
  case first =>
    go_region_with (first
      | (go_at_call 9; refine (g9 (W0.alloc Z37).drew).mono ?_; rintro e wA ⟨rfl, hA⟩; have HZ : Hid (wA.heap[W0.heap.size]? = some Z37) := Lib.hid (Below.heap_some hA (Below.heap_some (Below.refl _ _).drew (newB _ _ rfl))); have HA := Lib.hid (HS.out.next (((below1 W0 Z37).drew).trans (hA.mono (below1 W0 Z37).drew.size))); have q0 := cell_at (i := 0) HA.out.circ rfl; have q1 := cell_at (i := 1) HA.out.circ rfl; have q2 := cell_at (i := 2) HA.out.circ rfl; have qlt := block_lt q0)
      | (go_at_call 9; refine (g9 W0.drew).mono ?_; rintro e wA ⟨rfl, hA⟩; have HA := Lib.hid (HS.out.next ((Below.refl _ W0).drew.trans hA)); have q0 := cell_at (i := 0) HA.out.circ rfl; have q1 := cell_at (i := 1) HA.out.circ rfl; have q2 := cell_at (i := 2) HA.out.circ rfl; have qlt := block_lt q0)
      | (go_at_call 14; refine (g14 (wA.alloc Z37)).mono ?_; rintro e wB ⟨B, rfl, ho, hlo, hB⟩; have HZ2 : Hid (wB.heap[wA.heap.size]? = some Z37) := Lib.hid (Below.heap_some hB (newB _ _ rfl)); have HB := Lib.hid ((HA.out.next (below1 wA Z37)).next hB); have z0 := cell_at (i := 0) HZ2.out rfl; have z1 := cell_at (i := 1) HZ2.out rfl; have z2 := cell_at (i := 2) HZ2.out rfl; have zf : ∀ i, wB.frozen? ⟨wA.heap.size, i, none⟩ = false := fun i => free_at HZ2.out)
      | (go_at_call 14; refine (g14 wA).mono ?_; rintro e wB ⟨B, rfl, ho, hlo, hB⟩; have HZ2 := Lib.hid (Below.heap_some hB HZ.out); have HB := Lib.hid (HA.out.next hB); have z0 := cell_at (i := 0) HZ2.out rfl; have z1 := cell_at (i := 1) HZ2.out rfl; have z2 := cell_at (i := 2) HZ2.out rfl; have zf : ∀ i, wB.frozen? ⟨W0.heap.size, i, none⟩ = false := fun i => free_at HZ2.out)
      | (go_at_call 14; refine (g14 wA).mono ?_; rintro e wB ⟨B, rfl, ho, hlo, hB⟩; have HB := Lib.hid (HA.out.next hB)))
    all_goals (go_wp2_with fail; go_meet)
    all_goals first
      | exact ⟨rfl, C1.fin1 HB.out ho (Nat.lt_of_lt_of_le (Array.getElem?_eq_some_iff.1 HA.out.res).1 hlo)⟩
      | exact ⟨rfl, C1.fin1 HB.out ho (Nat.lt_of_lt_of_le (Array.getElem?_eq_some_iff.1 HA.out.res).1 (Nat.le_trans (below1 wA Z37).size hlo))⟩
      | exact ⟨rfl, C1.fin2 HB.out ho (Nat.lt_of_lt_of_le (Array.getElem?_eq_some_iff.1 HA.out.res).1 hlo) HZ2.out (Array.getElem?_eq_some_iff.1 HA.out.res).1⟩
      | exact ⟨rfl, C1.fin2 HB.out ho (Nat.lt_of_lt_of_le (Array.getElem?_eq_some_iff.1 HA.out.res).1 hlo) HZ2.out (Array.getElem?_eq_some_iff.1 HS.out.res).1⟩
      | exact ⟨rfl, C1.fin2 HB.out ho (Nat.lt_of_lt_of_le (Array.getElem?_eq_some_iff.1 HA.out.res).1 (Nat.le_trans (below1 wA Z37).size hlo)) HZ2.out (Array.getElem?_eq_some_iff.1 HA.out.res).1⟩
  case rest =>
    obtain ⟨rfl, b6, B, rfl, hst⟩ := hcut
    clear HS p0 p1 p2 plt
    have HS := Lib.hid hst
    clear hst
    have p0 := cell_at (i := 0) HS.out.c0.circ rfl
    have p1 := cell_at (i := 1) HS.out.c0.circ rfl
    have p2 := cell_at (i := 2) HS.out.c0.circ rfl
    have v0 := cell_at (i := 0) HS.out.var rfl
    have v1 : wc.cell? ⟨b6, 1, none⟩ = some (.int .i64 0) := cell_at (i := 1) HS.out.var rfl
    have v2 := cell_at (i := 2) HS.out.var rfl
    go_wp2_with fail
    go_at_call 15
    refine (g15 _ _ _ (HBP.out _ _ HS.out.own) (HC.out.below HS.out.c0.below)).mono ?_
    rintro e w2 ⟨B2, rfl, hown, hlo, hb2⟩
    have HO := Lib.hid hown
    have HC2 := Lib.hid (HS.out.c0.next hb2)
    have hB2 : w.heap.size + 1 < B2 := Nat.lt_of_lt_of_le (Array.getElem?_eq_some_iff.1 HS.out.c0.res).1 hlo
    clear hown hb2 p0 p1 p2 v0 v1 v2
    have r0 := cell_at (i := 0) HC2.out.res rfl
    have r1 := cell_at (i := 1) HC2.out.res rfl
    have r2 := cell_at (i := 2) HC2.out.res rfl
    have rf : ∀ i, w2.frozen? ⟨w.heap.size + 1, i, none⟩ = false := fun i => free_at HC2.out.res
    have rlt := block_lt r0
    go_wp2_with fail
    refine bodyPost_ret (v := .tuple #[.agg #[.int .i64 n, .int .i64 (runR (0, basisR n y) gs).1, .slice (some ⟨B2, 0, none⟩) N N], .bool true]) (by simp [results, Tryz.results11, go_sem, *]) rfl ⟨B2, rfl, ?_, by omega, ?_⟩
    · exact OwnR.below (((HO.out.far (by omega)).far (by omega)).far (by omega)) (below1 _ _)
    · have h1 := put3 HC2.out.below (Nat.le_succ _) (.int .i64 n) (.int .i64 (runR (0, basisR n y) gs).1) (.slice (some ⟨B2, 0, none⟩) N N)
      exact h1.alloc h1.size _
end Go.Proofs.YtlobgpgdknjhlaaGreat.WH
