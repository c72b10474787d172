/- cubitlaw26.MemoRoom: the walk. -/
import Derived.Test.YtcpdjbcnhdjojaaMemNI
import Derived.Test.YtcpdjbcnhdjojaaMemV
import Derived.WalkLawsBesides
namespace Go.Proofs.Ytcpdjbcnhdjojaa.MI
open Go.RowKit Go.Maps
set_option linter.unusedVariables false
set_option linter.unusedSimpArgs false

/-! place -/
def plc (i n : Int) : Int := (if i < 0 then -(i + 1) else i) % n
theorem plc_nonneg {i n : Int} (hn : 1 ≤ n) : 0 ≤ plc i n := Int.emod_nonneg _ (by omega)
theorem plc_lt {i n : Int} (hn : 1 ≤ n) : plc i n < n := Int.emod_lt_of_pos _ (by omega)
set_option maxRecDepth 100000 in
theorem place_calls (i n : Int) (w : World) (h1 : -9223372036854775808 ≤ i) (h2 : i ≤ 9223372036854775807) (hn : 1 ≤ n) (hn2 : n ≤ 9223372036854775807) :
    Calls Try.prog 7 #[.int .i64 i, .int .i64 n] w fun e w' => e = .returned (.int .i64 (plc i n)) ∧ w' = w := by
  unfold plc
  by_cases h : i < 0
  · rw [if_pos h]
    have h0 : 0 ≤ -(i + 1) := by omega
    go_enter Try.func7, Try.ntmps7
    go_wp2
    go_ret
    refine ⟨?_, rfl⟩
    show Ending.returned (.int .i64 (-((i + 1).tmod n))) = _
    rw [← Int.neg_tmod, Int.tmod_eq_emod_of_nonneg h0]
  · rw [if_neg h]
    have h' : 0 ≤ i := by omega
    have hd : decide (i < 0) = false := decide_eq_false h
    go_enter Try.func7, Try.ntmps7
    go_wp2
    go_ret
    exact ⟨rfl, rfl⟩

/-! the plain law -/
def recent (S : Int) (i c : Nat) : List (Int × Int) := (List.range c).map fun (j : Nat) => (((i : Int) - 1 - (j : Int)) * S, -((i : Int) - 1 - (j : Int)))
theorem recent_cons (S : Int) (i c : Nat) : ((i : Int) * S, -(i : Int)) :: recent S i c = recent S (i + 1) (c + 1) := by
  unfold recent
  rw [List.range_succ_eq_map, List.map_cons, List.map_map]
  congr 1
  · simp
  · apply List.map_congr_left
    intro j _
    simp only [Function.comp]
    have : ((i + 1 : Nat) : Int) - 1 - ((j + 1 : Nat) : Int) = (i : Int) - 1 - (j : Int) := by omega
    rw [show ((Nat.succ j : Nat) : Int) = ((j + 1 : Nat) : Int) from rfl, this]
theorem recent_last (S : Int) (i c : Nat) : (recent S i (c + 1)).dropLast = recent S i c := by
  unfold recent
  rw [List.range_succ, List.map_append, List.map_singleton, List.dropLast_concat]
def kv (e : Ent) : Int × Int := (e.key, e.val)
theorem recent_mem {S : Int} {i c : Nat} {st : List Ent} (h : st.map kv = recent S i c) {e : Ent} (he : e ∈ st) : ∃ j : Nat, j < c ∧ e.key = ((i : Int) - 1 - (j : Int)) * S ∧ e.val = -((i : Int) - 1 - (j : Int)) := by
  have h1 : kv e ∈ recent S i c := by rw [← h]; exact List.mem_map_of_mem he
  unfold recent at h1
  obtain ⟨j, hj, e1⟩ := List.mem_map.1 h1
  unfold kv at e1
  injection e1 with e1 e2
  exact ⟨j, List.mem_range.1 hj, e1.symm, e2.symm⟩
theorem recent_has {S : Int} {i c : Nat} {st : List Ent} (h : st.map kv = recent S i c) {j : Nat} (hj : j < c) : ∃ e ∈ st, e.key = ((i : Int) - 1 - (j : Int)) * S ∧ e.val = -((i : Int) - 1 - (j : Int)) := by
  have h1 : ((((i : Int) - 1 - (j : Int)) * S, -((i : Int) - 1 - (j : Int))) : Int × Int) ∈ st.map kv := by
    rw [h]; exact List.mem_map.2 ⟨j, List.mem_range.2 hj, rfl⟩
  obtain ⟨e, he, e1⟩ := List.mem_map.1 h1
  unfold kv at e1
  injection e1 with e1 e2
  exact ⟨e, he, e1, e2⟩
theorem recent_len {S : Int} {i c : Nat} {st : List Ent} (h : st.map kv = recent S i c) : st.length = c := by
  have := congrArg List.length h
  simpa [recent] using this
theorem mul_ne {S a b : Int} (hS : 1 ≤ S) (h : a ≠ b) : a * S ≠ b * S := fun e => h (Int.eq_of_mul_eq_mul_right (by omega) e)
theorem mul_bd {S a : Int} (h1 : 1 ≤ S) (h2 : S ≤ 1000) (a1 : -8192 ≤ a) (a2 : a ≤ 8192) : -8192000 ≤ a * S ∧ a * S ≤ 8192000 := by
  have b1 : a * S ≤ 8192 * S := Int.mul_le_mul_of_nonneg_right a2 (by omega)
  have b2 : -8192 * S ≤ a * S := Int.mul_le_mul_of_nonneg_right a1 (by omega)
  omega
theorem key_ok {a : Int} (h : -8192000 ≤ a ∧ a ≤ 8192000) : KOk a := WalkArith.wf_i64 (by omega)

/-- After i calls of Put. -/
def Putted (S : Int) (room : Nat) (base M B : Nat) (W : World) (i : Nat) (wr : World) : Prop :=
  ∃ st, MemoAt base wr M B room i st ∧ st.map kv = recent S i (min i room) ∧ Below base W wr

theorem Putted.put {S : Int} {room base M B i : Nat} {W wr : World} (hS : 1 ≤ S) (hS2 : S ≤ 1000) (hr : 1 ≤ room) (hr2 : room ≤ 4096) (hi : i ≤ 8191) (h : Putted S room base M B W i wr) :
    Calls Try.prog 8 #[.pointer (some ⟨M, 0, none⟩), .int .i64 ((i : Int) * S), .int .i64 (-(i : Int))] wr fun e w' => e = .returned (.bool (decide ((room : Int) ≤ (i : Int)))) ∧ Putted S room base M B W (i + 1) w' := by
  obtain ⟨st, hm, hst, hb⟩ := h
  have hlen := recent_len hst
  have hk : KOk ((i : Int) * S) := key_ok (mul_bd hS hS2 (by omega) (by omega))
  have hn : ∀ e ∈ st, e.key ≠ (i : Int) * S := fun e he => by
    obtain ⟨j, hj, hk, _⟩ := recent_mem hst he
    rw [hk]; exact mul_ne hS (by omega)
  by_cases hlt : i < room
  · rw [Nat.min_eq_left (by omega)] at hst hlen
    rw [decide_eq_false (by omega)]
    refine (Put_room hm (k := (i : Int) * S) (-(i : Int)) hk hn (by omega) (by omega) (by omega)).mono ?_
    rintro e w' ⟨rfl, ⟨blk, hm'⟩, hb'⟩
    refine ⟨rfl, _, hm', ?_, hb.trans hb'⟩
    rw [Nat.min_eq_left (by omega), List.map_cons, hst]
    exact recent_cons S i i
  · rw [Nat.min_eq_right (by omega)] at hst hlen
    rw [decide_eq_true (by omega)]
    have hne : st ≠ [] := by intro e; rw [e] at hlen; simp at hlen; omega
    have hsp := List.dropLast_concat_getLast hne
    rw [← hsp] at hm hn
    refine (Put_full hm (k := (i : Int) * S) (-(i : Int)) hk hn (by simp; omega) (by omega)).mono ?_
    rintro e w' ⟨rfl, ⟨blk, hm'⟩, hb'⟩
    refine ⟨rfl, _, hm', ?_, hb.trans hb'⟩
    rw [Nat.min_eq_right (by omega), List.map_cons, List.map_dropLast, hst]
    obtain ⟨c, rfl⟩ : ∃ c, room = c + 1 := ⟨room - 1, by omega⟩
    rw [recent_last]
    exact recent_cons S i c
theorem Putted.len {S : Int} {room base M B i : Nat} {W wr : World} (h : Putted S room base M B W i wr) :
    Calls Try.prog 9 #[.pointer (some ⟨M, 0, none⟩)] wr fun e w' => e = .returned (.int .i64 (min (i : Int) (room : Int))) ∧ w' = wr := by
  obtain ⟨st, hm, hst, hb⟩ := h
  have hlen := recent_len hst
  refine (Len_calls hm).mono ?_
  rintro e w' ⟨rfl, rfl⟩
  refine ⟨?_, rfl⟩
  rw [hlen]
  congr 2
  omega

theorem Putted.len1 {S : Int} {room base M B i : Nat} {W wr : World} (h : Putted S room base M B W (i + 1) wr) :
    Calls Try.prog 9 #[.pointer (some ⟨M, 0, none⟩)] wr fun e w' => e = .returned (.int .i64 (min ((i : Int) + 1) (room : Int))) ∧ w' = wr := h.len

/-- While the keys are asked. -/
def Asked (S : Int) (N c : Nat) (room : Int) (base M B : Nat) (W : World) (i : Nat) (wr : World) : Prop :=
  ∃ st now, MemoAt base wr M B room now st ∧ now ≤ 10000 + i ∧ (∀ j : Nat, j < c → ∃ e ∈ st, e.key = ((N : Int) - 1 - (j : Int)) * S ∧ e.val = -((N : Int) - 1 - (j : Int))) ∧ (∀ e ∈ st, ∃ j : Nat, j < c ∧ e.key = ((N : Int) - 1 - (j : Int)) * S) ∧ Below base W wr

theorem Asked.below {S : Int} {N c i : Nat} {room : Int} {base M B : Nat} {W wr : World} (h : Asked S N c room base M B W i wr) : Below base W wr := by
  obtain ⟨st, now, hm, hnow, h1, h2, hb⟩ := h
  exact hb
theorem Asked.get {S : Int} {N c i g : Nat} {room : Int} {base M B : Nat} {W wr : World} (h : Asked S N c room base M B W i wr) (hic : i < c) (hi : i ≤ 8192) {cur : Array Value} (hg : wr.heap[g]? = some (.cells cur 3 (0, 0))) :
    Calls Try.prog 11 #[.pointer (some ⟨M, 0, none⟩), .int .i64 (((N : Int) - 1 - (i : Int)) * S)] wr fun e w' => e = .returned (.tuple #[.int .i64 (-((N : Int) - 1 - (i : Int))), .bool true]) ∧ Asked S N c room base M B W (i + 1) w' ∧ w'.heap[g]? = some (.cells cur 3 (0, 0)) := by
  obtain ⟨st, now, hm, hnow, h1, h2, hb⟩ := h
  obtain ⟨e, he, hk, hv⟩ := h1 i hic
  have hgM : g ≠ M := by
    rintro rfl
    have := hm.memo.symm.trans hg
    simp at this
  have hgE : g ≠ e.blk := by
    rintro rfl
    have h3 := hm.ents e he
    unfold EntAt at h3
    have := h3.symm.trans hg
    simp at this
  rw [← hk, ← hv]
  refine (Get_here hm he (by omega)).mono ?_
  rintro x w' ⟨rfl, rfl⟩
  refine ⟨rfl, ⟨_, _, hm.bumped he, by push_cast; omega, fun j hj => ?_, fun x hx => ?_, hb.trans (touched_below hm.bM (hm.bE e he))⟩, (touched_other hgM hgE).trans hg⟩
  · obtain ⟨x, hx, hxk, hxv⟩ := h1 j hj
    by_cases ex : x.blk = e.blk
    · rw [hm.blkInj hx he ex] at hxk hxv
      exact ⟨_, mem_bump.2 (.inl rfl), hxk, hxv⟩
    · exact ⟨x, mem_bump.2 (.inr ⟨hx, ex⟩), hxk, hxv⟩
  · rcases mem_bump.1 hx with rfl | ⟨hx, _⟩
    · exact h2 e he
    · exact h2 x hx
theorem Asked.not {S : Int} {N c i : Nat} {room : Int} {base M B : Nat} {W wr : World} (h : Asked S N c room base M B W i wr) (hS : 1 ≤ S) (hS2 : S ≤ 1000) (hN : N ≤ 8191) (hr : (c : Int) ≤ room) (hr2 : room ≤ 4096) (h0 : 0 ≤ room) :
    Calls Try.prog 11 #[.pointer (some ⟨M, 0, none⟩), .int .i64 (((N : Int) - 1 - room) * S)] wr fun e w' => e = .returned (.tuple #[.int .i64 0, .bool false]) ∧ w' = wr := by
  obtain ⟨st, now, hm, hnow, h1, h2, hb⟩ := h
  refine Get_not hm (key_ok (mul_bd hS hS2 (by omega) (by omega))) fun e he => ?_
  obtain ⟨j, hj, hk⟩ := h2 e he
  rw [hk]
  exact mul_ne hS (by omega)

def KeysAre (S : Int) (N c : Nat) (v : Value) (w' : World) : Prop :=
  (c = 0 ∧ v = .slice none 0 0) ∨ ∃ g cap cur, v = .slice (some ⟨g, 0, none⟩) c cap ∧ w'.heap[g]? = some (.cells cur 3 (0, 0)) ∧ ∀ j : Nat, j < c → cur[j]? = some (.int .i64 (((N : Int) - 1 - (j : Int)) * S))

theorem Putted.keys {S : Int} {room base M B N c : Nat} {W wr : World} (hr : room ≤ 4096) (hN : N ≤ 8191) (hc : c = min N room) (h : Putted S room base M B W N wr) :
    Calls Try.prog 10 #[.pointer (some ⟨M, 0, none⟩)] wr fun e w' => ∃ v, e = .returned v ∧ KeysAre S N c v w' ∧ Asked S N c room base M B W 0 w' := by
  obtain ⟨st, hm, hst, hb⟩ := h
  rw [← hc] at hst
  have hlen := recent_len hst
  refine (Keys_calls hm (by omega)).mono ?_
  rintro e w' ⟨v, b, rfl, hbb, hrow, hb'⟩
  refine ⟨v, rfl, ?_, st, _, hm.below hb', by omega, fun j hj => recent_has hst hj, fun e he => ?_, hb.trans (hb'.mono (by have := hm.bM; have := hm.ltM; omega))⟩
  · rw [hlen] at hrow
    rcases hrow.2 with ⟨rfl, hnil⟩ | ⟨g, cap, cur, rfl, _, hg, hcc, _, hcs, htake⟩
    · left
      exact ⟨hnil, rfl⟩
    · right
      refine ⟨g, cap, cur, rfl, hg, fun j hj => ?_⟩
      have h1 := hrow.cellAt j (by omega)
      have hjc : j < cur.size := by omega
      rw [cell_of hg (v := cur[j]) (by simp)] at h1
      rw [List.getElem?_map] at h1
      have h2 : (st.map kv)[j]? = (recent S N c)[j]? := by rw [hst]
      unfold recent at h2
      simp [hj, kv] at h2
      obtain ⟨e, he, e1, _⟩ := h2
      rw [he] at h1
      simp [e1] at h1
      rw [Array.getElem?_eq_getElem hjc]
      exact congrArg some h1
  · obtain ⟨j, hj, hk, _⟩ := recent_mem hst he
    exact ⟨j, hj, hk⟩
end Go.Proofs.Ytcpdjbcnhdjojaa.MI
