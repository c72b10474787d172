/- Memos with keys of one kind: what a deletion and a store do; Drop; Put at a key that is not there. -/
import Derived.Test.YtcpdjbcnhdjojaaMemGI
import Derived.RegionTactic
import Derived.BigRegion
import Derived.Deep.QuietTactic
import Derived.BigQuiet
import Derived.Lib.Hide
namespace Go.Proofs.Ytcpdjbcnhdjojaa.MI
open Go.RowKit Go.Maps Go.ChangeMaps
set_option linter.unusedVariables false
set_option linter.unusedSimpArgs false

section
variable {base : Nat} {w w' : World} {M B : Nat} {room now : Int} {st : List Ent}

theorem turned_other {j : Nat} (h : w.mapTurned w' B) (hj : j ≠ B) : w'.heap[j]? = w.heap[j]? := by
  obtain ⟨es, c, es', c', hb, rfl⟩ := h
  exact heap_setBlock_other hb _ hj
theorem turned_below (h : w.mapTurned w' B) {b : Nat} (hb : b ≤ B) : Below b w w' :=
  ⟨h.grown.os, h.grown.tape, h.grown.output, h.grown.size, fun k hk => turned_other h (by omega)⟩
theorem turned_size (h : w.mapTurned w' B) : w'.heap.size = w.heap.size := by
  obtain ⟨es, c, es', c', hb, rfl⟩ := h
  simp [ChangeMaps.setBlock]

def without (e : Ent) (st : List Ent) : List Ent := st.filter (fun x => x.blk != e.blk)
theorem mem_without {e x : Ent} : x ∈ without e st ↔ x ∈ st ∧ x.blk ≠ e.blk := by simp [without]

/-- What a change of the map alone leaves: the rest is to be shown of the map. -/
theorem MemoAt.remap (h : MemoAt base w M B room now st) {st' : List Ent} (hsub : ∀ x ∈ st', x ∈ st) (hd : st'.Pairwise (fun a b => b.used < a.used)) (hk : st'.Pairwise (fun a b => a.key ≠ b.key)) (hl : st'.length < maxLen) (ht : w.mapTurned w' B) (hm : MapAt w' B st') : MemoAt base w' M B room now st' where
  memo := (turned_other ht h.neMB).trans h.memo
  map := hm
  ents := fun e he => (turned_other ht (h.neE (hsub e he)).2).trans (h.ents e (hsub e he))
  desc := hd
  upto := fun e he => h.upto e (hsub e he)
  keys := hk
  kok := fun e he => h.kok e (hsub e he)
  bM := h.bM
  bB := h.bB
  bE := fun e he => h.bE e (hsub e he)
  pos := h.pos
  len := hl

theorem MemoAt.drop (h : MemoAt base w M B room now st) {e : Ent} (he : e ∈ st) (ty : TypeId) :
    ∃ w1, (Builtin.delete_ #[43, 3] ty #[.map (some B), (Value.int .i64 e.key)]).run Try.prog w = .ok (.tuple #[]) w1 ∧ MemoAt base w1 M B room now (without e st) ∧ w.mapTurned w1 B := by
  obtain ⟨D, h1, h2, h3, h4⟩ := h.map
  obtain ⟨w1, hrun, ho, ht⟩ := h1.drop law Try.underlying43 (keyOf_mk (h.kok e he)) ty
  have hlen : (without e st).length + 1 = st.length := length_strike he (fun x hx e1 => h.blkInj hx he e1) h.blks
  have hs : Maps.size (D.del (Lit.int .i64 e.key)) = (without e st).length := by
    have := Maps.size_del (k := (Lit.int .i64 e.key)) (h1.tidy law)
    rw [Maps.has_true_of_atKey (h3 e he), h2] at this
    simp at this
    omega
  refine ⟨w1, hrun, h.remap (fun x hx => (mem_without.1 hx).1) (h.desc.filter _) (h.keys.filter _) (by have := h.len; omega) ht ⟨D.del (Lit.int .i64 e.key), by rw [← hs]; exact own_tight ho, hs, fun x hx z => ?_, fun kl hk => ?_⟩, ht⟩
  · obtain ⟨hx, hb⟩ := mem_without.1 hx
    rw [Maps.atKey_del_other (fun e1 => hb (congrArg Ent.blk (keyInj h.keys hx he (lt_inj e1))))]
    exact h3 x hx z
  · by_cases ek : kl = (Lit.int .i64 e.key)
    · rw [ek]; exact Maps.has_del_same
    · rw [Maps.has_del_other ek]
      refine h4 kl fun x hx e1 => ?_
      by_cases hb : x.blk = e.blk
      · rw [h.blkInj hx he hb] at e1; exact ek e1.symm
      · exact hk x (mem_without.2 ⟨hx, hb⟩) e1

theorem MemoAt.drop_not (h : MemoAt base w M B room now st) {k : Int} (hk : KOk k) (hn : ∀ e ∈ st, e.key ≠ k) (ty : TypeId) :
    ∃ w1, (Builtin.delete_ #[43, 3] ty #[.map (some B), (Value.int .i64 k)]).run Try.prog w = .ok (.tuple #[]) w1 ∧ MemoAt base w1 M B room now st ∧ w.mapTurned w1 B := by
  obtain ⟨D, h1, h2, h3, h4⟩ := h.map
  obtain ⟨w1, hrun, ho, ht⟩ := h1.drop law Try.underlying43 (keyOf_mk hk) ty
  have hh := h4 (Lit.int .i64 k) (fun e he e1 => hn e he (lt_inj e1))
  rw [Maps.del_of_not_has hh] at ho
  exact ⟨w1, hrun, h.remap (fun x hx => hx) h.desc h.keys h.len ht ⟨D, ho, h2, h3, h4⟩, ht⟩

theorem MemoAt.store (h : MemoAt base w M B room now st) {x : Ent} (hx : EntAt w x) (hnow : x.used ≤ now) (hup : ∀ e ∈ st, e.used < x.used) (hk : KOk x.key) (hn : ∀ e ∈ st, e.key ≠ x.key) (hb : base ≤ x.blk) (hl : st.length + 1 < maxLen) :
    ∃ w1, (Instr.mapUpdate 43 (.map (some B)) (Value.int .i64 x.key) (.pointer (some ⟨x.blk, 0, none⟩))).run Try.prog w = .ok () w1 ∧ MemoAt base w1 M B room now (x :: st) ∧ w.mapTurned w1 B := by
  obtain ⟨D, h1, h2, h3, h4⟩ := h.map
  obtain ⟨w1, hrun, ho, ht⟩ := h1.store law Try.underlying43 h.len (keyOf_mk hk) (val := .pointer (some ⟨x.blk, 0, none⟩)) (d := .lit (.int .u64 x.blk)) (ps := []) rfl
  have hh := h4 (Lit.int .i64 x.key) (fun e he e1 => hn e he (lt_inj e1))
  have hneB : x.blk ≠ B := by
    obtain ⟨es, c, hbm⟩ := h.map.block
    unfold EntAt at hx
    rintro e1
    rw [e1, hbm] at hx
    cases hx
  have hm : MapAt w1 B (x :: st) := by
    refine ⟨D.put (Lit.int .i64 x.key) (.lit (.int .u64 x.blk)), ho, ?_, fun y hy z => ?_, fun kl hkl => ?_⟩
    · rw [Maps.size_put (h1.tidy law), hh, h2]; rfl
    · rcases List.mem_cons.1 hy with rfl | hy
      · exact Maps.atKey_put_same h1.isMap (keyLit hk) _ _
      · rw [Maps.atKey_put_other (fun e1 => hn y hy (lt_inj e1))]; exact h3 y hy z
    · rw [Maps.has_put_other (Ne.symm (hkl x (by simp)))]
      exact h4 kl fun e he => hkl e (by simp [he])
  refine ⟨w1, hrun, ?_, ht⟩
  exact {
    memo := (turned_other ht h.neMB).trans h.memo
    map := hm
    ents := fun e he => by
      rcases List.mem_cons.1 he with rfl | he
      · exact (turned_other ht hneB).trans hx
      · exact (turned_other ht (h.neE he).2).trans (h.ents e he)
    desc := List.pairwise_cons.2 ⟨hup, h.desc⟩
    upto := fun e he => by
      rcases List.mem_cons.1 he with rfl | he
      · exact hnow
      · exact h.upto e he
    keys := List.pairwise_cons.2 ⟨fun e he e1 => hn e he e1.symm, h.keys⟩
    kok := fun e he => by
      rcases List.mem_cons.1 he with rfl | he
      · exact hk
      · exact h.kok e he
    bM := h.bM
    bB := h.bB
    bE := fun e he => by
      rcases List.mem_cons.1 he with rfl | he
      · exact hb
      · exact h.bE e he
    pos := h.pos
    len := hl }

/-- A tick for an entry that is not in the map yet. -/
theorem MemoAt.ticked (h : MemoAt base w M B room now st) {x : Ent} (hx : EntAt w x) (hM : x.blk ≠ M) (hB : x.blk ≠ B) (hE : ∀ e ∈ st, e.blk ≠ x.blk) :
    MemoAt base (touched w M x.blk now) M B room (now + 1) st ∧ EntAt (touched w M x.blk now) { x with used := now + 1 } := by
  have hm1 : (w.setCell ⟨M, 1, none⟩ (.int .u64 (now + 1))).heap[M]? = some (.cells #[.int .i64 room, .int .u64 (now + 1), .map (some B)] 46 (0, 0)) := by rw [heap_set h.memo]; rfl
  have he1 : (w.setCell ⟨M, 1, none⟩ (.int .u64 (now + 1))).heap[x.blk]? = _ := (Below.heap_setCell _ ⟨M, 1, none⟩ _ _ hM).trans hx
  refine ⟨{ memo := ?_, map := h.map.of_block (touched_other h.neMB.symm hB.symm), ents := fun e he => (touched_other (h.neE he).1 (hE e he)).trans (h.ents e he), desc := h.desc, upto := fun e he => by have := h.upto e he; omega, keys := h.keys, kok := h.kok, bM := h.bM, bB := h.bB, bE := h.bE, pos := by have := h.pos; omega, len := h.len }, ?_⟩
  · unfold touched
    rw [Below.heap_setCell _ _ _ _ (Ne.symm hM)]; exact hm1
  · unfold EntAt touched
    exact (heap_set he1 _).trans rfl

/-- Drop. -/
def DropPost (base : Nat) (w : World) (M B : Nat) (room now : Int) (st : List Ent) (b : Bool) (x : Ending) (w' : World) : Prop := x = .returned (.bool b) ∧ MemoAt base w' M B room now st ∧ Below base w w'
end
end Go.Proofs.Ytcpdjbcnhdjojaa.MI
