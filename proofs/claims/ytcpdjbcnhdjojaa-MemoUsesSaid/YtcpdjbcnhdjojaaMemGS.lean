/- Memos with keys of one kind: touch, New, Get, Len, Drop. -/
import Derived.Test.YtcpdjbcnhdjojaaMemTS
import Derived.Tactics
import Derived.ProofKit
import Derived.OwnWalk
import Derived.KernelRfl
import Derived.WalkSpells
namespace Go.Proofs.Ytcpdjbcnhdjojaa.MS
open Go.RowKit Go.Maps
set_option linter.unusedVariables false
set_option linter.unusedSimpArgs false

theorem u64_wf {n : Int} (h0 : 0 ≤ n) (h1 : n < 18446744073709551616) : (Lit.int .u64 n).wf = true := by
  simp [Lit.wf, IntKind.min, IntKind.max, IntKind.signed, IntKind.bits]
  omega

set_option maxRecDepth 100000 in
set_option maxHeartbeats 1000000 in
theorem touch_calls (M E : Nat) (now u : Int) (w : World) (hne : M ≠ E) (hu : (Lit.int .u64 (now + 1)).wf = true)
    (c : w.cell? ⟨M, 1, none⟩ = some (.int .u64 now)) (cf : w.frozen? ⟨M, 1, none⟩ = false) (d : w.cell? ⟨E, 2, none⟩ = some (.int .u64 u)) (df : w.frozen? ⟨E, 2, none⟩ = false) :
    Calls Try.prog 22 #[.pointer (some ⟨M, 0, none⟩), .pointer (some ⟨E, 0, none⟩)] w fun e w' => e = .returned (.tuple #[]) ∧ w' = touched w M E now := by
  have hwr : IntKind.u64.wrap (now + 1) = now + 1 := by
    simp [Lit.wf, IntKind.min, IntKind.max, IntKind.signed, IntKind.bits] at hu
    simp [IntKind.wrap, IntKind.bits, IntKind.signed]
    omega
  clear hu
  unfold touched
  go_enter Try.func22, Try.ntmps22
  go_wp2
  go_end0
  exact ⟨rfl, rfl⟩

def MadeAt (room : Int) (w : World) : World := (w.alloc (.map #[] 0)).alloc (.cells #[.int .i64 room, .int .u64 0, .map (some w.heap.size)] 58)

set_option maxRecDepth 100000 in
set_option maxHeartbeats 1000000 in
theorem New_calls (room : Int) (w : World) (h1 : 1 ≤ room) (h2 : room ≤ 4096) : Calls Try.prog 12 #[.int .i64 room] w fun e w' => e = .returned (.tuple #[.pointer (some ⟨w.heap.size + 1, 0, none⟩), .int .i64 0]) ∧ w' = MadeAt room w := by
  have b1 : decide (room < 1) = false := decide_eq_false (by omega)
  have b2 : decide (room > 4096) = false := decide_eq_false (by omega)
  have hmm := @run_makeMap Try.prog
  have hbd : ∀ (m : Nat) (w : World), (Instr.build 58 #[(0, .int .i64 room), (2, .map (some m))]).run Try.prog w = .ok (.agg #[.int .i64 room, .int .u64 0, .map (some m)]) w := fun m w => run_build w 58 _ _ (by kernel_rfl)
  have b3 : decide (4096 < room) = false := decide_eq_false (by omega)
  unfold MadeAt
  go_enter Try.func12, Try.ntmps12
  go_wp2
  go_ret2
  exact ⟨rfl, rfl⟩

set_option maxRecDepth 100000 in
set_option maxHeartbeats 1000000 in
theorem New_out (room : Int) (w : World) (h : ¬ (1 ≤ room ∧ room ≤ 4096)) : Calls Try.prog 12 #[.int .i64 room] w fun e w' => e = .returned (.tuple #[.pointer none, .int .i64 2]) ∧ w' = w := by
  by_cases b : room < 1
  · clear h
    go_enter Try.func12, Try.ntmps12
    go_wp2
    go_ret2
    exact ⟨rfl, rfl⟩
  · have b3 : 4096 < room := by omega
    clear h
    go_enter Try.func12, Try.ntmps12
    go_wp2
    go_ret2
    exact ⟨rfl, rfl⟩

theorem made_memo (room : Int) (w : World) : MemoAt w.heap.size (MadeAt room w) (w.heap.size + 1) w.heap.size room 0 [] where
  memo := by
    have h := (MapKept.heap_alloc (w.alloc (.map #[] 0)) (.cells #[.int .i64 room, .int .u64 0, .map (some w.heap.size)] 58)).1
    simpa [MadeAt] using h
  map := ⟨.map [], (World.ownsMap_made w Try.prog 9 pe).alloc _, rfl, (fun e he => by cases he), fun kl _ => rfl⟩
  ents := fun e he => by cases he
  desc := List.Pairwise.nil
  upto := fun e he => by cases he
  keys := List.Pairwise.nil
  kok := fun e he => by cases he
  bM := by omega
  bB := Nat.le_refl _
  bE := fun e he => by cases he
  pos := Int.le_refl _
  len := by unfold maxLen; simp

theorem made_below (room : Int) (w : World) : Below w.heap.size w (MadeAt room w) := ((Below.refl _ _).alloc (Nat.le_refl _) _).alloc (by simp) _

section
variable {base : Nat} {w : World} {M B : Nat} {room now : Int} {st : List Ent}

/-- What the walk is told of the memo's own block. -/
theorem MemoAt.cells (h : MemoAt base w M B room now st) : w.cell? ⟨M, 0, none⟩ = some (.int .i64 room) ∧ w.cell? ⟨M, 1, none⟩ = some (.int .u64 now) ∧ w.cell? ⟨M, 2, none⟩ = some (.map (some B)) ∧ w.frozen? ⟨M, 1, none⟩ = false :=
  ⟨cell_of h.memo rfl, cell_of h.memo rfl, cell_of h.memo rfl, free_of h.memo⟩
theorem MemoAt.ecells (h : MemoAt base w M B room now st) {e : Ent} (he : e ∈ st) : w.cell? ⟨e.blk, 0, none⟩ = some (Value.string e.key) ∧ w.cell? ⟨e.blk, 1, none⟩ = some (.int .i64 e.val) ∧ w.cell? ⟨e.blk, 2, none⟩ = some (.int .u64 e.used) ∧ w.frozen? ⟨e.blk, 2, none⟩ = false ∧ w.frozen? ⟨e.blk, 1, none⟩ = false :=
  ⟨cell_of (h.ents e he) rfl, cell_of (h.ents e he) rfl, cell_of (h.ents e he) rfl, free_of (h.ents e he), free_of (h.ents e he)⟩

/-- The look-up, at a key that is there. -/
theorem MemoAt.look (h : MemoAt base w M B room now st) {e : Ent} (he : e ∈ st) : (Instr.lookup 56 (.map (some B)) (Value.string e.key) true).run Try.prog w = .ok (.tuple #[.pointer (some ⟨e.blk, 0, none⟩), .bool true]) w := by
  obtain ⟨D, h1, h2, h3, h4⟩ := h.map
  obtain ⟨v, ps, hr, hv⟩ := h1.look_ok law Try.underlying56 (zeroE w) (zd := .nil) (zp := []) rfl (keyOf_mk (h.kok e he))
  rw [h3 e he] at hv
  rw [pe_block hv] at hr
  rw [hr, Maps.has_true_of_atKey (h3 e he)]
/-- .. at a key that is not. -/
theorem MemoAt.look_not (h : MemoAt base w M B room now st) {k : ByteArray} (hk : KOk k) (hn : ∀ e ∈ st, e.key ≠ k) : (Instr.lookup 56 (.map (some B)) (Value.string k) true).run Try.prog w = .ok (.tuple #[.pointer none, .bool false]) w := by
  obtain ⟨D, h1, h2, h3, h4⟩ := h.map
  obtain ⟨v, ps, hr, hv⟩ := h1.look_ok law Try.underlying56 (zeroE w) (zd := .nil) (zp := []) rfl (keyOf_mk hk)
  have hh := h4 (Lit.string k.data.toList) (fun e he e1 => hn e he (lt_inj e1))
  rw [Maps.atKey_of_not_has hh] at hv
  rw [hh] at hr
  obtain ⟨c, rfl⟩ := invV v _ hv
  cases c with
  | none => exact hr
  | some b => simp [mkP, pe] at hv
theorem MemoAt.lenRun (h : MemoAt base w M B room now st) (ty : TypeId) : (Builtin.len_ #[56] ty #[.map (some B)]).run Try.prog w = .ok (.int .i64 st.length) w := by
  obtain ⟨D, h1, h2, h3, h4⟩ := h.map
  rw [h1.len Try.underlying56 ty, h2]

set_option maxRecDepth 100000 in
set_option maxHeartbeats 1000000 in
theorem Get_here (h : MemoAt base w M B room now st) {e : Ent} (he : e ∈ st) (hu : now < 18446744073709551615) :
    Calls Try.prog 14 #[.pointer (some ⟨M, 0, none⟩), (Value.string e.key)] w fun x w' => x = .returned (.tuple #[.int .i64 e.val, .bool true]) ∧ w' = touched w M e.blk now := by
  obtain ⟨c0, c1, c2, cf⟩ := h.cells
  obtain ⟨d0, d1, d2, df, dg⟩ := h.ecells he
  have hl := h.look he
  have hn := h.neE he
  have hT := touch_calls M e.blk now e.used w hn.1.symm (u64_wf (by have := h.pos; omega) (by omega)) c1 cf d2 df
  have hv : (touched w M e.blk now).cell? ⟨e.blk, 1, none⟩ = some (.int .i64 e.val) := by
    unfold touched
    rw [World.cell?_setCell_other _ _ _ _ (by intro e'; simp at e'), World.cell?_setCell_other _ _ _ _ (by intro e'; simp at e' <;> exact hn.1 e'.symm)]
    exact d1
  clear h he hn
  generalize touched w M e.blk now = W at hT hv ⊢
  go_enter Try.func14, Try.ntmps14
  go_wp2_with (first | (go_at_call 22; refine hT.mono ?_; rintro x w' ⟨rfl, rfl⟩))
  go_ret2
  exact ⟨rfl, rfl⟩

set_option maxRecDepth 100000 in
set_option maxHeartbeats 1000000 in
theorem Get_not (h : MemoAt base w M B room now st) {k : ByteArray} (hk : KOk k) (hn : ∀ e ∈ st, e.key ≠ k) :
    Calls Try.prog 14 #[.pointer (some ⟨M, 0, none⟩), (Value.string k)] w fun x w' => x = .returned (.tuple #[.int .i64 0, .bool false]) ∧ w' = w := by
  obtain ⟨c0, c1, c2, cf⟩ := h.cells
  have hl := h.look_not hk hn
  clear h hk hn
  go_enter Try.func14, Try.ntmps14
  go_wp2
  go_ret2
  exact ⟨rfl, rfl⟩

set_option maxRecDepth 100000 in
theorem Get_nil (k : ByteArray) (w : World) : Calls Try.prog 14 #[.pointer none, (Value.string k)] w fun x w' => x = .returned (.tuple #[.int .i64 0, .bool false]) ∧ w' = w := by
  go_enter Try.func14, Try.ntmps14
  go_wp2
  go_ret2
  exact ⟨rfl, rfl⟩

set_option maxRecDepth 100000 in
theorem Len_calls (h : MemoAt base w M B room now st) : Calls Try.prog 17 #[.pointer (some ⟨M, 0, none⟩)] w fun x w' => x = .returned (.int .i64 st.length) ∧ w' = w := by
  obtain ⟨c0, c1, c2, cf⟩ := h.cells
  have hl := h.lenRun 3
  have hl2 := h.lenI
  clear h
  go_enter Try.func17, Try.ntmps17
  go_wp2
  go_ret
  exact ⟨rfl, rfl⟩

set_option maxRecDepth 100000 in
theorem Len_nil (w : World) : Calls Try.prog 17 #[.pointer none] w fun x w' => x = .returned (.int .i64 0) ∧ w' = w := by
  go_enter Try.func17, Try.ntmps17
  go_wp2
  go_ret
  exact ⟨rfl, rfl⟩
end
end Go.Proofs.Ytcpdjbcnhdjojaa.MS
