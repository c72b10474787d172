/- touched, bound, copied, slices.Clone: walked. -/
import Derived.Test.YtlobgpgdknjhlaaGreatWhV
namespace Go.Proofs.YtlobgpgdknjhlaaGreat.WH
open Go Go.RowKit Go.Proofs.YtlobgpgdknjhlaaGreat.F
set_option linter.unusedVariables false
set_option linter.unusedSimpArgs false
attribute [local go_sem] run_store_complex run_store_func
set_option maxRecDepth 100000 in
theorem touched_calls (name : ByteArray) (a : Option Addr) (c : Nat) (qs : List Nat) (w : World) (h : Ints w a c qs) (hq : ∀ q ∈ qs, q < 64) : Calls Tryz.prog 80 #[.agg #[.int .i64 1, .string name, .slice a qs.length c, .int .i64 0, .bool false, .int .u64 0, .int .u64 0]] w fun e w' => e = .returned (.tuple #[.int .u64 (setOf qs), .int .u64 0, .int .u64 0, .bool false]) ∧ Below w.heap.size w w' := by
  have HI := Lib.hid h
  have HP := Lib.hid hq
  have HS := Lib.hid (BoxSt.start w #[.int .i64 1, .string name, .slice a qs.length c, .int .i64 0, .bool false, .int .u64 0, .int .u64 0] 28)
  have hlc : (qs.length : Int) ≤ 9223372036854775807 := by have := h.len; have := h.cap; omega
  clear h hq
  go_enter Tryz.func80, Tryz.ntmps80
  go_wp2_with fail
  generalize w.alloc (.cells #[.int .i64 1, .string name, .slice a qs.length c, .int .i64 0, .bool false, .int .u64 0, .int .u64 0] 28) = W1 at *
  go_loopw [2, 11] (fun s k W => ∃ j : Nat, j ≤ qs.length ∧ k = .int .i64 j ∧ s = .int .u64 (setOf (qs.take j)) ∧ W = W1) (fun _ k _ => qs.length - (intOf k).toNat)
  case atStart => exact ⟨0, Nat.zero_le _, rfl, rfl, rfl⟩
  case round =>
    obtain ⟨j, hj, rfl, rfl, rfl⟩ := hrel
    by_cases hlt : j < qs.length
    · obtain ⟨b, o, hbl, hidx, hc⟩ := (HI.out.below HS.out.below).at j hlt
      have hq := HP.out _ (List.getElem_mem hlt)
      have hS : setOf (qs.take j) < 2 ^ 64 := setOf_lt fun q hq => HP.out q (List.mem_of_mem_take hq)
      have HNX : Hid (Value.int .u64 (Go.bits .or .u64 ((setOf (qs.take j) : Nat) : Int) (IntKind.u64.wrap (2 ^ qs[j]))) = .int .u64 ((setOf (qs.take (j + 1)) : Nat) : Int)) := Lib.hid (by
        rw [shl1 hq, B.or_u hS (Nat.pow_lt_pow_right (by decide) hq), ← setOf_snoc, List.take_succ_eq_append_getElem hlt])
      clear hS
      generalize setOf (qs.take j) = S at *
      generalize qs[j] = q at *
      have hqI : (q : Int) < 64 := by omega
      have hq0 : (0 : Int) ≤ q := by omega
      go_wp2_with fail
      go_roundw
      case rel => exact ⟨j + 1, by omega, by go_num, HNX.out, by first | rfl | trivial⟩
      case measure => simp [intOf]; omega
    · obtain rfl : j = qs.length := by omega
      rw [List.take_length]
      have p0 := cell_at (i := 0) HS.out.blk rfl
      have p4 := cell_at (i := 4) HS.out.blk rfl
      go_wp2_with fail
      go_region
      go_wp2_with fail
      refine bodyPost_ret (v := .tuple #[.int .u64 (setOf qs), .int .u64 0, .int .u64 0, .bool false]) (by simp [results, Tryz.results80, go_sem, *]) rfl ⟨rfl, HS.out.below.drew⟩
/-- Two boxes. -/
structure Box2 (w : World) (x y : Array Value) (tx ty : TypeId) (W : World) : Prop where
  below : Below w.heap.size w W
  b0 : W.heap[w.heap.size]? = some (.cells x tx)
  b1 : W.heap[w.heap.size + 1]? = some (.cells y ty)
theorem Box2.start (w : World) (x y : Array Value) (tx ty : TypeId) : Box2 w x y tx ty ((w.alloc (.cells x tx)).alloc (.cells y ty)) :=
  ⟨(below1 _ _).trans ((below1 _ _).mono (by simp)), Below.heap_some (below1 _ _) (newB _ _ rfl), newB _ _ (by simp)⟩
theorem Box2.next {w W W' : World} {x y : Array Value} {tx ty : TypeId} (h : Box2 w x y tx ty W) (hb : Below W.heap.size W W') : Box2 w x y tx ty W' :=
  ⟨h.below.trans (hb.mono h.below.size), Below.heap_some hb h.b0, Below.heap_some hb h.b1⟩
theorem and_of {x y : Nat} (hx : x < 2 ^ 64) (hy : y < 2 ^ 64) : Go.bits .and .u64 (x : Int) (y : Int) = ((x &&& y : Nat) : Int) := B.and_u hx hy
set_option maxRecDepth 100000 in
theorem bound_calls (n1 n2 : ByteArray) (a1 a2 : Option Addr) (c1 c2 : Nat) (q1 q2 : List Nat) (w : World) (h1 : Ints w a1 c1 q1) (h2 : Ints w a2 c2 q2) (hq1 : ∀ q ∈ q1, q < 64) (hq2 : ∀ q ∈ q2, q < 64) : Calls Tryz.prog 50 #[.agg #[.int .i64 1, .string n1, .slice a1 q1.length c1, .int .i64 0, .bool false, .int .u64 0, .int .u64 0], .agg #[.int .i64 1, .string n2, .slice a2 q2.length c2, .int .i64 0, .bool false, .int .u64 0, .int .u64 0]] w fun e w' => e = .returned (.bool (decide (setOf q1 &&& setOf q2 ≠ 0))) ∧ Below w.heap.size w w' := by
  have g1 := fun w h => touched_calls n1 a1 c1 q1 w h hq1
  have g2 := fun w h => touched_calls n2 a2 c2 q2 w h hq2
  have HI := Lib.hid (And.intro h1 h2)
  have e1 := and_of (setOf_lt hq1) (setOf_lt hq2)
  clear h1 h2 hq1 hq2
  generalize setOf q1 = s1 at *
  generalize setOf q2 = s2 at *
  have HS := Lib.hid (Box2.start w #[.int .i64 1, .string n1, .slice a1 q1.length c1, .int .i64 0, .bool false, .int .u64 0, .int .u64 0] #[.int .i64 1, .string n2, .slice a2 q2.length c2, .int .i64 0, .bool false, .int .u64 0, .int .u64 0] 28 28)
  generalize hr : decide (s1 &&& s2 ≠ 0) = r
  have hne : (((s1 &&& s2 : Nat) : Int) != 0) = r := by
    rw [← hr]
    by_cases hz : s1 &&& s2 = 0
    · simp [hz]
    · simp [hz]
  rw [← e1] at hne
  have z1 : Go.bits .and .u64 0 0 = 0 := by decide
  have z2 : Go.bits .or .u64 0 0 = 0 := by decide
  clear e1 hr
  go_enter Tryz.func50, Tryz.ntmps50
  go_wp2_with fail
  go_at_call 80
  refine (g1 _ (HI.out.1.below HS.out.below)).mono ?_
  rintro x w2 ⟨rfl, hb2⟩
  have HS2 := Lib.hid (HS.out.next hb2)
  clear hb2 HS
  have p0 := cell_at (i := 0) HS2.out.b1 rfl
  have p1 := cell_at (i := 1) HS2.out.b1 rfl
  have p2 := cell_at (i := 2) HS2.out.b1 rfl
  have p3 := cell_at (i := 3) HS2.out.b1 rfl
  have p4 := cell_at (i := 4) HS2.out.b1 rfl
  have p5 := cell_at (i := 5) HS2.out.b1 rfl
  have p6 := cell_at (i := 6) HS2.out.b1 rfl
  go_wp2_with fail
  go_at_call 80
  refine (g2 _ (HI.out.2.below HS2.out.below)).mono ?_
  rintro x w3 ⟨rfl, hb3⟩
  have HS3 := Lib.hid (HS2.out.next hb3)
  clear hb3 HS2 p0 p1 p2 p3 p4 p5 p6
  cases r with
  | true =>
    go_wp2_with fail
    go_ret
    exact ⟨rfl, HS3.out.below⟩
  | false =>
    go_wp2_with fail
    go_ret
    exact ⟨rfl, HS3.out.below⟩
def intV (q : Nat) : Value := .int .i64 q
theorem Ints.far {w : World} {g c : Nat} {qs : List Nat} (h : Ints w (some ⟨g, 0, none⟩) c qs) {b : Nat} (hb : g ≠ b) (i : Nat) (v : Value) : Ints (w.setCell ⟨b, i, none⟩ v) (some ⟨g, 0, none⟩) c qs := by
  refine { h with at_ := h.at_.imp id fun ⟨b', off, ha, hc⟩ => ⟨b', off, ha, fun j hj => ?_⟩ }
  have e : g = b' ∧ 0 = off := by simpa using ha
  have hk : (w.setCell ⟨b, i, none⟩ v).heap[b']? = w.heap[b']? := setCell_far (by omega)
  exact (World.cell?_of_block (a := ⟨b', off + j, none⟩) hk).trans (hc j hj)
theorem ints_own {w : World} {B n : Nat} {v : Value} {qs : List Nat} (hn : qs.length = n) (h0 : 0 < n) (h : w.ownsRow B 3 1 v n (qs.map intV)) : ∃ g c, v = .slice (some ⟨g, 0, none⟩) n c ∧ Ints w (some ⟨g, 0, none⟩) c qs ∧ B ≤ g := by
  obtain ⟨-, h⟩ := h
  rcases h with ⟨rfl, rfl⟩ | ⟨g, cap, cur, rfl, hb, hg, hle, hm, hsz, htk⟩
  · omega
  · unfold maxLen at hm
    refine ⟨_, cap, rfl, ⟨by omega, by omega, .inr ⟨g, 0, rfl, fun j hj => ?_⟩⟩, hb⟩
    have h1 : (cur.toList.take (n * 1))[j]? = some (intV qs[j]) := by rw [htk]; simp [hj]
    rw [List.getElem?_take_of_lt (by omega)] at h1
    rw [Nat.zero_add]
    unfold World.cell?
    rw [hg]
    show cur[j]? = some (intV qs[j])
    simpa using h1
set_option maxRecDepth 100000 in
theorem clone_calls (a : Option Addr) (c : Nat) (qs : List Nat) (w : World) (h : Ints w a c qs) (h0 : 0 < qs.length) (hl : qs.length ≤ 64) : Calls Tryz.prog 81 #[.slice a qs.length c] w fun e w' => ∃ g c', e = .returned (.slice (some ⟨g, 0, none⟩) qs.length c') ∧ Ints w' (some ⟨g, 0, none⟩) c' qs ∧ w.heap.size ≤ g ∧ Below w.heap.size w w' := by
  obtain ⟨i0, hi, hz0, hz1, hz2⟩ : ∃ i, Tryz.prog.info? 3 = some i ∧ i.zero = some (.int .i64 0) ∧ i.size = 1 ∧ i.bytes = 8 := ⟨_, rfl, rfl, rfl, rfl⟩
  obtain ⟨b, off, rfl, hc⟩ : ∃ b off, a = some ⟨b, off, none⟩ ∧ ∀ (j : Nat) (h : j < qs.length), w.cell? ⟨b, off + j, none⟩ = some (.int .i64 (qs[j] : Nat)) := by
    rcases h.at_ with rfl | h
    · simp at h0
    · exact h
  have hcells : ∀ j u, (qs.map intV)[j]? = some u → (w.alloc (.cells #[] 3)).cell? ((⟨b, off, none⟩ : Addr).add j) = some u := by
    intro j u hu
    rw [List.getElem?_map] at hu
    obtain ⟨q, hq, rfl⟩ := Option.map_eq_some_iff.1 hu
    obtain ⟨hj, rfl⟩ := List.getElem?_eq_some_iff.1 hq
    have hadd : (⟨b, off, none⟩ : Addr).add j = ⟨b, off + j, none⟩ := by unfold Addr.add; split <;> simp_all
    rw [hadd, (below1 w (.cells #[] 3)).cell (p := ⟨b, off + j, none⟩) (block_lt (hc j hj))]
    exact hc j hj
  have HC := Lib.hid hcells
  have hnil : ∀ n W, (binOp .eql 22 (Value.slice (some ⟨b, off, none⟩) n c) (.slice none 0 0)).run Tryz.prog W = .ok (.bool false) W := fun n W => by
    have h9 : ∀ d : Nat, (Op.equalIn (d + 1) 22 (Value.slice (some ⟨b, off, none⟩) n c) (.slice none 0 0)).run Tryz.prog W = .ok false W := fun d => by
      simp [Op.equalIn, run_underlying Tryz.underlying22]
    simp only [binOp]
    simp [Op.equal, Op.maxDepth, h9 9999]
  clear h hc hcells
  go_enter Tryz.func81, Tryz.ntmps81
  generalize hn : qs.length = n at *
  have HN := Lib.hid hn
  clear hn
  go_wp2_with (at_builtin; refine wpList_append_own _ rfl _ _ 22 rfl w.heap.size 3 i0 _ 1 8 Tryz.underlying22 hi hz0 hz1 hz2 rfl (by decide) _ 0 [] rfl (World.ownsRow_lit (e := 3) (size := 1) w #[] 0 (Nat.le_refl _) (by unfold maxLen; omega) rfl) ⟨b, off, none⟩ n c (qs.map intV) rfl (by simp [HN.out]) HC.out ?c2 ?c3 ?c4 ?c5 ?_)
  case c2 => intro u hu; obtain ⟨q, -, rfl⟩ := List.mem_map.1 hu; rfl
  case c3 => unfold maxLen; omega
  case c4 => omega
  case c5 => simp
  intro v' w1 hown hgr _
  obtain ⟨g, c', rfl, hints, hge⟩ := ints_own HN.out h0 hown
  have HR := Lib.hid (And.intro hints ((below1 w (.cells #[] 3)).trans ⟨hgr.os, hgr.tape, hgr.output, hgr.size, fun i hi => hgr.block i (by simp; omega) (by simp [Value.ownBlock]; omega)⟩))
  clear hown hgr hints
  go_wp2_with fail
  go_ret
  exact ⟨_, _, rfl, HR.out.1, hge, HR.out.2⟩
set_option maxRecDepth 100000 in
theorem copied_calls (name : ByteArray) (a : Option Addr) (c : Nat) (qs : List Nat) (w : World) (h : Ints w a c qs) (h0 : 0 < qs.length) (hl : qs.length ≤ 64) : Calls Tryz.prog 51 #[.agg #[.int .i64 1, .string name, .slice a qs.length c, .int .i64 0, .bool false, .int .u64 0, .int .u64 0]] w fun e w' => ∃ g c', e = .returned (.agg #[.int .i64 1, .string name, .slice (some ⟨g, 0, none⟩) qs.length c', .int .i64 0, .bool false, .int .u64 0, .int .u64 0]) ∧ Ints w' (some ⟨g, 0, none⟩) c' qs ∧ w.heap.size ≤ g ∧ Below w.heap.size w w' := by
  have g81 := fun w h => clone_calls a c qs w h h0 hl
  have HI := Lib.hid h
  have HS := Lib.hid (Box2.start w #[.int .i64 1, .string name, .slice a qs.length c, .int .i64 0, .bool false, .int .u64 0, .int .u64 0] #[.int .i64 0, .string { data := #[] }, .slice none 0 0, .int .i64 0, .bool false, .int .u64 0, .int .u64 0] 28 28)
  clear h
  go_enter Tryz.func51, Tryz.ntmps51
  go_wp2_with fail
  go_at_call 81
  refine (g81 _ (HI.out.below HS.out.below)).mono ?_
  rintro x w2 ⟨g, c', rfl, hints, hge, hb2⟩
  have hge2 : w.heap.size + 2 ≤ g := Nat.le_trans (Array.getElem?_eq_some_iff.1 HS.out.b1).1 hge
  have HS2 := Lib.hid (HS.out.next hb2)
  have HR := Lib.hid hints
  clear hb2 HS hints HI hge
  have p0 := cell_at (i := 0) HS2.out.b0 rfl
  have p1 := cell_at (i := 1) HS2.out.b0 rfl
  have p2 := cell_at (i := 2) HS2.out.b0 rfl
  have p3 := cell_at (i := 3) HS2.out.b0 rfl
  have p4 := cell_at (i := 4) HS2.out.b0 rfl
  have p5 := cell_at (i := 5) HS2.out.b0 rfl
  have p6 := cell_at (i := 6) HS2.out.b0 rfl
  have q0 := cell_at (i := 0) HS2.out.b1 rfl
  have q1 := cell_at (i := 1) HS2.out.b1 rfl
  have q2 := cell_at (i := 2) HS2.out.b1 rfl
  have q3 := cell_at (i := 3) HS2.out.b1 rfl
  have q4 := cell_at (i := 4) HS2.out.b1 rfl
  have q5 := cell_at (i := 5) HS2.out.b1 rfl
  have q6 := cell_at (i := 6) HS2.out.b1 rfl
  have pf : ∀ i, w2.frozen? ⟨w.heap.size, i, none⟩ = false := fun i => free_at HS2.out.b0
  have qf : ∀ i, w2.frozen? ⟨w.heap.size + 1, i, none⟩ = false := fun i => free_at HS2.out.b1
  have plt := block_lt p0
  have qlt := block_lt q0
  go_wp2_with fail
  refine bodyPost_ret (v := .agg #[.int .i64 1, .string name, .slice (some ⟨g, 0, none⟩) qs.length c', .int .i64 0, .bool false, .int .u64 0, .int .u64 0]) (by simp [results, Tryz.results51, go_sem, *]) rfl ⟨_, _, rfl, ?_, by omega, ?_⟩
  · exact (((((((HR.out.far (by omega) _ _).far (by omega) _ _).far (by omega) _ _).far (by omega) _ _).far (by omega) _ _).far (by omega) _ _).far (by omega) _ _).far (by omega) _ _
  · have hb := HS2.out.below
    exact (((((((hb.setCell (by simp) _).setCell (by simp) _).setCell (by simp) _).setCell (by simp) _).setCell (by simp) _).setCell (by simp) _).setCell (by simp) _).setCell (by simp) _
end Go.Proofs.YtlobgpgdknjhlaaGreat.WH
