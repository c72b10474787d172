/- cubitlaw26.MemoUses: the walk. -/
import Derived.Test.YtcpdjbcnhdjojaaMemR
namespace Go.Proofs.Ytcpdjbcnhdjojaa.MS
open Go.RowKit Go.Maps
set_option linter.unusedVariables false
set_option linter.unusedSimpArgs false

def kept : ByteArray := ⟨#[107, 101, 112, 116]⟩
def xs (i : Nat) : ByteArray := ⟨(List.replicate i (120 : UInt8)).toArray⟩
theorem ok_kept : KOk kept := by unfold KOk maxLen; decide
theorem xs_size (i : Nat) : (xs i).size = i := by
  show (List.replicate i (120 : UInt8)).toArray.size = i
  simp
theorem ok_xs {i : Nat} (h : i ≤ 300) : KOk (xs i) := by unfold KOk maxLen; rw [xs_size]; omega
theorem xs_ne {i j : Nat} (h : i ≠ j) : xs i ≠ xs j := fun e => h (by rw [← xs_size i, ← xs_size j, e])
theorem xs_kept (i : Nat) : xs i ≠ kept := by
  intro e
  have h1 := congrArg (fun b : ByteArray => b.data.toList) e
  simp [xs, kept] at h1
  cases i with
  | zero => simp at h1
  | succ i => simp [List.replicate_succ] at h1
theorem xs_succ (i : Nat) : xs (i + 1) = xs i ++ ⟨#[120]⟩ := by
  apply ByteArray.ext
  rw [ByteArray.data_append]
  apply Array.toList_inj.1
  simp [xs, List.replicate_succ']

/-- After i rounds. -/
def Uses (r base M B : Nat) (W : World) (i : Nat) (wr : World) : Prop :=
  ∃ st now, MemoAt base wr M B r now st ∧ now ≤ 1 + 2 * (i : Int) ∧ (∃ e ∈ st, e.key = kept ∧ e.val = 1) ∧ (∀ e ∈ st, e.key = kept ∨ ∃ j, j ≤ i ∧ e.key = xs j) ∧ st.length ≤ r ∧ Below base W wr
/-- .. and the kept key has been asked for. -/
def Used (r base M B : Nat) (W : World) (i : Nat) (wr : World) : Prop :=
  ∃ e0 st now, MemoAt base wr M B r now (e0 :: st) ∧ now ≤ 2 + 2 * (i : Int) ∧ e0.key = kept ∧ e0.val = 1 ∧ (∀ e ∈ st, ∃ j, j ≤ i ∧ e.key = xs j) ∧ st.length + 1 ≤ r ∧ Below base W wr
def Lost (r base M B : Nat) (W : World) (wr : World) : Prop :=
  ∃ st now, MemoAt base wr M B r now st ∧ (∀ e ∈ st, e.key ≠ kept) ∧ Below base W wr

variable {r base M B i : Nat} {W wr : World}
theorem Uses.get (h : Uses r base M B W i wr) (hi : i ≤ 300) : Calls Try.prog 14 #[.pointer (some ⟨M, 0, none⟩), .string kept] wr fun e w' => e = .returned (.tuple #[.int .i64 1, .bool true]) ∧ Used r base M B W i w' := by
  obtain ⟨st, now, hm, hnow, ⟨e, he, hk, hv⟩, hall, hlen, hb⟩ := h
  rw [← hk, ← hv]
  refine (Get_here hm he (by omega)).mono ?_
  rintro x w' ⟨rfl, rfl⟩
  have hm' := hm.bumped he
  have hl := bump_length (u := now + 1) hm he
  unfold bump at hm' hl
  refine ⟨rfl, _, _, _, hm', by omega, hk, hv, fun x hx => ?_, by simp only [List.length_cons] at hl; omega, hb.trans (touched_below hm.bM (hm.bE e he))⟩
  obtain ⟨hx1, hx2⟩ := List.mem_filter.1 hx
  rcases hall x hx1 with h1 | h1
  · have := keyInj hm.keys hx1 he (h1.trans hk.symm)
    rw [this] at hx2
    simp at hx2
  · exact h1
theorem Used.fresh {e0 : Ent} {st : List Ent} (hk : e0.key = kept) (hall : ∀ e ∈ st, ∃ j, j ≤ i ∧ e.key = xs j) : ∀ e ∈ e0 :: st, e.key ≠ xs (i + 1) := by
  intro e he
  rcases List.mem_cons.1 he with rfl | he
  · rw [hk]; exact (xs_kept _).symm
  · obtain ⟨j, hj, e1⟩ := hall e he
    rw [e1]; exact xs_ne (by omega)
theorem Used.put (h : Used r base M B W i wr) (hr : 2 ≤ r) (hr2 : r ≤ 4096) (hi : i + 1 ≤ 300) : Calls Try.prog 13 #[.pointer (some ⟨M, 0, none⟩), .string (xs (i + 1)), .int .i64 2] wr fun e w' => (∃ b, e = .returned (.bool b)) ∧ Uses r base M B W (i + 1) w' := by
  obtain ⟨e0, st, now, hm, hnow, hk, hv, hall, hlen, hb⟩ := h
  have hn := Used.fresh hk hall
  by_cases hlt : st.length + 1 < r
  · refine (Put_room hm (k := xs (i + 1)) 2 (ok_xs hi) hn (by simp; omega) (by omega) (by omega)).mono ?_
    rintro e w' ⟨rfl, ⟨blk, hm'⟩, hb'⟩
    refine ⟨⟨_, rfl⟩, _, _, hm', by push_cast; omega, ⟨e0, by simp, hk, hv⟩, fun e he => ?_, by simp; omega, hb.trans hb'⟩
    rcases List.mem_cons.1 he with rfl | he
    · exact .inr ⟨i + 1, Nat.le_refl _, rfl⟩
    · rcases List.mem_cons.1 he with rfl | he
      · exact .inl hk
      · obtain ⟨j, hj, e1⟩ := hall e he
        exact .inr ⟨j, by omega, e1⟩
  · have hne : st ≠ [] := by intro e; rw [e] at hlt; simp at hlt; omega
    have hsp := List.dropLast_concat_getLast hne
    rw [← hsp, ← List.cons_append] at hm hn
    refine (Put_full hm (k := xs (i + 1)) 2 (ok_xs hi) hn (by simp; omega) (by omega)).mono ?_
    rintro e w' ⟨rfl, ⟨blk, hm'⟩, hb'⟩
    refine ⟨⟨_, rfl⟩, _, _, hm', by push_cast; omega, ⟨e0, by simp, hk, hv⟩, fun e he => ?_, by simp; omega, hb.trans hb'⟩
    rcases List.mem_cons.1 he with rfl | he
    · exact .inr ⟨i + 1, Nat.le_refl _, rfl⟩
    · rcases List.mem_cons.1 he with rfl | he
      · exact .inl hk
      · obtain ⟨j, hj, e1⟩ := hall e (List.dropLast_subset _ he)
        exact .inr ⟨j, by omega, e1⟩
theorem Used.put1 (h : Used 1 base M B W i wr) (hi : i + 1 ≤ 300) : Calls Try.prog 13 #[.pointer (some ⟨M, 0, none⟩), .string (xs (i + 1)), .int .i64 2] wr fun e w' => e = .returned (.bool true) ∧ Lost 1 base M B W w' := by
  obtain ⟨e0, st, now, hm, hnow, hk, hv, hall, hlen, hb⟩ := h
  have hn := Used.fresh hk hall
  obtain rfl : st = [] := List.length_eq_zero_iff.1 (by omega)
  refine (Put_full (st := []) hm (k := xs (i + 1)) 2 (ok_xs hi) hn (by simp) (by omega)).mono ?_
  rintro e w' ⟨rfl, ⟨blk, hm'⟩, hb'⟩
  refine ⟨rfl, _, _, hm', fun e he => ?_, hb.trans hb'⟩
  simp at he
  subst he
  exact xs_kept _
theorem Lost.drop (h : Lost r base M B W wr) : Calls Try.prog 15 #[.pointer (some ⟨M, 0, none⟩), .string kept] wr fun e w' => e = .returned (.bool false) ∧ Below base W w' := by
  obtain ⟨st, now, hm, hall, hb⟩ := h
  refine (Drop_not hm ok_kept hall).mono ?_
  rintro e w' ⟨rfl, hm', hb'⟩
  exact ⟨rfl, hb.trans hb'⟩
theorem Uses.drop (h : Uses r base M B W i wr) : Calls Try.prog 15 #[.pointer (some ⟨M, 0, none⟩), .string kept] wr fun e w' => e = .returned (.bool true) ∧ Lost r base M B W w' := by
  obtain ⟨st, now, hm, hnow, ⟨e, he, hk, hv⟩, hall, hlen, hb⟩ := h
  rw [← hk]
  refine (Drop_here hm he).mono ?_
  rintro x w' ⟨rfl, hm', hb'⟩
  refine ⟨rfl, _, _, hm', fun x hx e1 => ?_, hb.trans hb'⟩
  obtain ⟨hx1, hx2⟩ := mem_without.1 hx
  exact hx2 (congrArg Ent.blk (keyInj hm.keys hx1 he (e1.trans hk.symm)))
theorem Uses.start (hm : MemoAt base wr M B r 0 []) (hr : 1 ≤ r) (hr2 : r ≤ 4096) : Calls Try.prog 13 #[.pointer (some ⟨M, 0, none⟩), .string kept, .int .i64 1] wr fun e w' => (∃ b, e = .returned (.bool b)) ∧ Uses r base M B wr 0 w' := by
  refine (Put_room hm (k := kept) 1 ok_kept (fun e he => by cases he) (by simp; omega) (by omega) (by omega)).mono ?_
  rintro e w' ⟨rfl, ⟨blk, hm'⟩, hb'⟩
  exact ⟨⟨_, rfl⟩, _, _, hm', by omega, ⟨_, List.mem_cons_self, rfl, rfl⟩, fun e he => by simp at he; subst he; exact .inl rfl, by simp; omega, hb'⟩
end Go.Proofs.Ytcpdjbcnhdjojaa.MS
