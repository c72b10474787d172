/- Memos with keys of one kind: what their memory holds, and what keeps it. -/
import Derived.Test.YtcpdjbcnhdjojaaProg
import Derived.Below
import Derived.WalkKit
import Derived.Maps.OwnIn
import Derived.Laws.Rows
namespace Go.Proofs.Ytcpdjbcnhdjojaa.MI
open Go.RowKit Go.Maps
set_option linter.unusedVariables false
set_option linter.unusedSimpArgs false

def KOk (k : Int) : Prop := (Lit.int .i64 k).wf = true
theorem law : Keyed Try.prog 3 := int_keyed Try.underlying3
theorem keyOf_mk {k : Int} (h : KOk k) : keyOf Try.prog 3 (.int .i64 k) = some (.int .i64 k) := keyOf_int_mk Try.underlying3 h
theorem invK (key : Value) (kl : Lit) (h : keyOf Try.prog 3 key = some kl) : ∃ x : Int, key = .int .i64 x := by
  obtain ⟨x, rfl, _⟩ := Maps.keyOf_int_inv Try.underlying3 h
  exact ⟨x, rfl⟩
theorem lt_inj {a b : Int} (h : Lit.int .i64 a = Lit.int .i64 b) : a = b := by injection h
theorem keyLit {k : Int} (h : KOk k) : WideAt.IsKeyLit (Lit.int .i64 k) := law.key (keyOf_mk h)

/-- How an element (a pointer to an entry) reads. -/
def pe (v : Value) : Option (DataW Unit × List MemPlace) :=
  match v with
  | .pointer none => some (.nil, [])
  | .pointer (some ⟨b, 0, none⟩) => some (.lit (.int .u64 b), [])
  | _ => none
def mkP (o : Option Nat) : Value := match o with | none => .pointer none | some b => .pointer (some ⟨b, 0, none⟩)
theorem invV (v : Value) (y : DataW Unit × List MemPlace) (h : pe v = some y) : ∃ c, v = mkP c := by
  unfold pe at h
  split at h
  · exact ⟨none, rfl⟩
  · exact ⟨some _, rfl⟩
  · cases h
theorem pe_block {v : Value} {b : Nat} {ps : List MemPlace} (h : pe v = some (.lit (.int .u64 b), ps)) : v = .pointer (some ⟨b, 0, none⟩) := by
  unfold pe at h
  split at h
  · cases h
  · injection h with h; injection h with h1 h2; injection h1 with h1; injection h1 with _ h1
    have := Int.ofNat.inj h1
    subst this; rfl
  · cases h
theorem zeroE (w : World) : (zeroValue 47).run Try.prog w = .ok (.pointer none) w := by kernel_rfl

structure Ent where
  blk : Nat
  key : Int
  val : Int
  used : Int

def MapAt (w : World) (B : Nat) (st : List Ent) : Prop :=
  ∃ D, w.ownsMap Try.prog 3 pe B st.length D ∧ Maps.size D = st.length ∧ (∀ e ∈ st, ∀ z, D.atKey (Lit.int .i64 e.key) z = .lit (.int .u64 e.blk)) ∧ (∀ kl, (∀ e ∈ st, (Lit.int .i64 e.key) ≠ kl) → Maps.has D kl = false)

def EntAt (w : World) (e : Ent) : Prop := w.heap[e.blk]? = some (.cells #[(Value.int .i64 e.key), .int .i64 e.val, .int .u64 e.used] 50 (0, 0))

structure MemoAt (base : Nat) (w : World) (M B : Nat) (room now : Int) (st : List Ent) : Prop where
  memo : w.heap[M]? = some (.cells #[.int .i64 room, .int .u64 now, .map (some B)] 46 (0, 0))
  map : MapAt w B st
  ents : ∀ e ∈ st, EntAt w e
  desc : st.Pairwise (fun a b => b.used < a.used)
  upto : ∀ e ∈ st, e.used ≤ now
  keys : st.Pairwise (fun a b => a.key ≠ b.key)
  kok : ∀ e ∈ st, KOk e.key
  bM : base ≤ M
  bB : base ≤ B
  bE : ∀ e ∈ st, base ≤ e.blk
  pos : 0 ≤ now
  len : st.length < maxLen

section
variable {base : Nat} {w w' : World} {M B : Nat} {room now : Int} {st : List Ent}

theorem lt_of_block {b : Nat} {o : Obj} (h : w.heap[b]? = some o) : b < w.heap.size := (Array.getElem?_eq_some_iff.1 h).1
theorem cell_of {b i : Nat} {c : Array Value} {T : TypeId} {v : Value} (h : w.heap[b]? = some (.cells c T (0, 0))) (hi : c[i]? = some v) : w.cell? ⟨b, i, none⟩ = some v := by
  simp [World.cell?, h, hi]
theorem free_of {b i : Nat} {c : Array Value} {T : TypeId} (h : w.heap[b]? = some (.cells c T (0, 0))) : w.frozen? ⟨b, i, none⟩ = false := by
  simp [World.frozen?, h]

theorem own_tight {n : Nat} {D : DataW Unit} (h : w.ownsMap Try.prog 3 pe B n D) : w.ownsMap Try.prog 3 pe B (Maps.size D) D := by
  obtain ⟨es, clock, hb, F, hs, rfl⟩ := h
  exact ⟨es, clock, hb, F, by simp [Maps.size, length_sorted], rfl⟩

theorem own_block {n : Nat} {D : DataW Unit} (h : w.ownsMap Try.prog 3 pe B n D) (hb : w'.heap[B]? = w.heap[B]?) : w'.ownsMap Try.prog 3 pe B n D := by
  obtain ⟨es, clock, h1, r⟩ := h
  exact ⟨es, clock, hb.trans h1, r⟩

theorem MapAt.of_block (h : MapAt w B st) (hb : w'.heap[B]? = w.heap[B]?) : MapAt w' B st := by
  obtain ⟨D, h1, r⟩ := h
  exact ⟨D, own_block h1 hb, r⟩
theorem MapAt.block (h : MapAt w B st) : ∃ es c, w.heap[B]? = some (.map es c) := by
  obtain ⟨D, ⟨es, c, hb, _⟩, _⟩ := h
  exact ⟨es, c, hb⟩
theorem MapAt.congr {st' : List Ent} (h : MapAt w B st) (hl : st'.length = st.length) (he : ∀ e' ∈ st', ∃ e ∈ st, e.key = e'.key ∧ e.blk = e'.blk) (he' : ∀ e ∈ st, ∃ e' ∈ st', e'.key = e.key) : MapAt w B st' := by
  obtain ⟨D, h1, h2, h3, h4⟩ := h
  refine ⟨D, hl ▸ h1, hl ▸ h2, fun e' hm z => ?_, fun kl hk => h4 kl fun e hm e1 => ?_⟩
  · obtain ⟨e, hm', hk, hb⟩ := he e' hm
    rw [← hk, ← hb]; exact h3 e hm' z
  · obtain ⟨e', hm', hk'⟩ := he' e hm
    exact hk e' hm' (by rw [hk']; exact e1)

namespace MemoAt
theorem lenI (h : MemoAt base w M B room now st) : (st.length : Int) ≤ 9223372036854775807 := by
  have := h.len; unfold maxLen at this; omega
theorem ltM (h : MemoAt base w M B room now st) : M < w.heap.size := lt_of_block h.memo
theorem ltB (h : MemoAt base w M B room now st) : B < w.heap.size := by
  obtain ⟨es, c, hb⟩ := h.map.block
  exact lt_of_block hb
theorem ltE (h : MemoAt base w M B room now st) {e : Ent} (he : e ∈ st) : e.blk < w.heap.size := lt_of_block (h.ents e he)
theorem neMB (h : MemoAt base w M B room now st) : M ≠ B := by
  obtain ⟨es, c, hb⟩ := h.map.block
  rintro rfl
  have := h.memo.symm.trans hb
  cases this
theorem neE {e : Ent} (h : MemoAt base w M B room now st) (he : e ∈ st) : e.blk ≠ M ∧ e.blk ≠ B := by
  obtain ⟨es, c, hb⟩ := h.map.block
  have h1 := h.ents e he
  unfold EntAt at h1
  constructor
  · rintro e1
    rw [e1, h.memo] at h1
    cases h1
  · rintro e1
    rw [e1, hb] at h1
    cases h1
theorem neEE {a b : Ent} (h : MemoAt base w M B room now st) (ha : a ∈ st) (hb : b ∈ st) (e : a.blk = b.blk) : a.used = b.used := by
  have h1 := h.ents a ha
  have h2 := h.ents b hb
  unfold EntAt at h1 h2
  rw [e, h2] at h1
  injection h1 with h1
  injection h1 with h1
  simp at h1
  exact h1.2.2.symm
theorem usedInj : ∀ {st : List Ent}, st.Pairwise (fun a b => b.used < a.used) → ∀ {a b : Ent}, a ∈ st → b ∈ st → a.used = b.used → a = b
  | [], _, _, _, h, _, _ => by cases h
  | x :: r, hp, a, b, ha, hb, e => by
    obtain ⟨h1, h2⟩ := List.pairwise_cons.1 hp
    rcases List.mem_cons.1 ha with ea | ha'
    · rcases List.mem_cons.1 hb with eb | hb'
      · rw [ea, eb]
      · have := h1 b hb'; rw [ea] at e; omega
    · rcases List.mem_cons.1 hb with eb | hb'
      · have := h1 a ha'; rw [eb] at e; omega
      · exact usedInj h2 ha' hb' e
theorem blkInj {a b : Ent} (h : MemoAt base w M B room now st) (ha : a ∈ st) (hb : b ∈ st) (e : a.blk = b.blk) : a = b := usedInj h.desc ha hb (h.neEE ha hb e)
/-- What keeps the blocks of a memo keeps the memo. -/
theorem keep (h : MemoAt base w M B room now st) (hM : w'.heap[M]? = w.heap[M]?) (hB : w'.heap[B]? = w.heap[B]?) (hE : ∀ e ∈ st, w'.heap[e.blk]? = w.heap[e.blk]?) : MemoAt base w' M B room now st :=
  { h with memo := hM.trans h.memo, map := h.map.of_block hB, ents := fun e he => (hE e he).trans (h.ents e he) }
theorem below (h : MemoAt base w M B room now st) (hb : Below w.heap.size w w') : MemoAt base w' M B room now st :=
  h.keep (hb.block _ h.ltM) (hb.block _ h.ltB) (fun e he => hb.block _ (h.ltE he))
end MemoAt

theorem heap_set {b i : Nat} {c : Array Value} {T : TypeId} (h : w.heap[b]? = some (.cells c T (0, 0))) (v : Value) : (w.setCell ⟨b, i, none⟩ v).heap[b]? = some (.cells (c.setIfInBounds i v) T (0, 0)) := by
  unfold World.setCell
  simp [Array.getElem?_modify, h]

/-- The entries with e ahead, used now. -/
def bump (e : Ent) (u : Int) (st : List Ent) : List Ent := { e with used := u } :: st.filter (fun x => x.blk != e.blk)

theorem mem_bump {e x : Ent} {u : Int} : x ∈ bump e u st ↔ x = { e with used := u } ∨ (x ∈ st ∧ x.blk ≠ e.blk) := by
  unfold bump
  simp

def touched (w : World) (M E : Nat) (now : Int) : World := (w.setCell ⟨M, 1, none⟩ (.int .u64 (now + 1))).setCell ⟨E, 2, none⟩ (.int .u64 (now + 1))

theorem touched_other {E j : Nat} (h1 : j ≠ M) (h2 : j ≠ E) : (touched w M E now).heap[j]? = w.heap[j]? := by
  unfold touched
  rw [Below.heap_setCell _ _ _ _ h2, Below.heap_setCell _ _ _ _ h1]
theorem touched_size {E : Nat} : (touched w M E now).heap.size = w.heap.size := by simp [touched]
theorem touched_below {E B : Nat} (h1 : B ≤ M) (h2 : B ≤ E) : Below B w (touched w M E now) := ((Below.refl B w).setCell h1 _).setCell h2 _

theorem length_strike {e : Ent} : ∀ {st : List Ent}, e ∈ st → (∀ x ∈ st, x.blk = e.blk → x = e) → st.Pairwise (fun a b => a.blk ≠ b.blk) → (st.filter (fun x => x.blk != e.blk)).length + 1 = st.length
  | [], h, _, _ => by cases h
  | x :: r, h, hi, hp => by
    obtain ⟨h1, h2⟩ := List.pairwise_cons.1 hp
    by_cases ex : x.blk = e.blk
    · have : r.filter (fun x => x.blk != e.blk) = r := List.filter_eq_self.2 fun y hy => by
        have := h1 y hy; simp; rw [← ex]; exact fun h => this h.symm
      simp [List.filter_cons, ex, this]
    · have hr : e ∈ r := by
        rcases List.mem_cons.1 h with e1 | h'
        · exact absurd (by rw [e1]) ex
        · exact h'
      have := length_strike hr (fun y hy => hi y (by simp [hy])) h2
      simp [List.filter_cons, ex]
      exact this

theorem MemoAt.blks (h : MemoAt base w M B room now st) : st.Pairwise (fun a b => a.blk ≠ b.blk) := by
  refine List.Pairwise.imp_of_mem ?_ h.desc
  intro a b ha hb hab e
  have := h.neEE ha hb e
  omega

theorem bump_length {e : Ent} {u : Int} (h : MemoAt base w M B room now st) (he : e ∈ st) : (bump e u st).length = st.length := by
  have := length_strike he (fun x hx e1 => h.blkInj hx he e1) h.blks
  simp only [bump, List.length_cons]; exact this

theorem keyInj : ∀ {st : List Ent}, st.Pairwise (fun a b => a.key ≠ b.key) → ∀ {a b : Ent}, a ∈ st → b ∈ st → a.key = b.key → a = b
| [], _, _, _, h, _, _ => by cases h
| x :: r, hp, a, b, ha, hb, e => by
  obtain ⟨h1, h2⟩ := List.pairwise_cons.1 hp
  rcases List.mem_cons.1 ha with ea | ha'
  · rcases List.mem_cons.1 hb with eb | hb'
    · rw [ea, eb]
    · exact absurd (by rw [← ea]; exact e) (h1 b hb')
  · rcases List.mem_cons.1 hb with eb | hb'
    · exact absurd (by rw [← eb]; exact e.symm) (h1 a ha')
    · exact keyInj h2 ha' hb' e

theorem MemoAt.bumped (h : MemoAt base w M B room now st) {e : Ent} (he : e ∈ st) : MemoAt base (touched w M e.blk now) M B room (now + 1) (bump e (now + 1) st) := by
  have hne := h.neE he
  have hm1 : (w.setCell ⟨M, 1, none⟩ (.int .u64 (now + 1))).heap[M]? = some (.cells #[.int .i64 room, .int .u64 (now + 1), .map (some B)] 46 (0, 0)) := by rw [heap_set h.memo]; rfl
  have he1 : (w.setCell ⟨M, 1, none⟩ (.int .u64 (now + 1))).heap[e.blk]? = _ := (Below.heap_setCell _ ⟨M, 1, none⟩ _ _ hne.1).trans (h.ents e he)
  refine { memo := ?_, map := ?_, ents := ?_, desc := ?_, upto := ?_, keys := ?_, kok := ?_, bM := h.bM, bB := h.bB, bE := ?_, pos := by have := h.pos; omega, len := by rw [bump_length h he]; exact h.len }
  · unfold touched
    rw [Below.heap_setCell _ _ _ _ (Ne.symm hne.1)]; exact hm1
  · refine (h.map.of_block (touched_other h.neMB.symm hne.2.symm)).congr (bump_length h he) ?_ ?_
    · intro x hx
      rcases mem_bump.1 hx with rfl | ⟨hx, _⟩
      · exact ⟨e, he, rfl, rfl⟩
      · exact ⟨x, hx, rfl, rfl⟩
    · intro x hx
      by_cases ex : x.blk = e.blk
      · rw [h.blkInj hx he ex]; exact ⟨_, mem_bump.2 (.inl rfl), rfl⟩
      · exact ⟨x, mem_bump.2 (.inr ⟨hx, ex⟩), rfl⟩
  · intro x hx
    rcases mem_bump.1 hx with rfl | ⟨hx, hxe⟩
    · unfold EntAt touched
      exact (heap_set he1 _).trans rfl
    · unfold EntAt
      rw [touched_other (h.neE hx).1 hxe]
      exact h.ents x hx
  · refine List.pairwise_cons.2 ⟨fun x hx => ?_, h.desc.filter _⟩
    have := h.upto x ((List.mem_filter.1 hx).1)
    show x.used < now + 1
    omega
  · intro x hx
    rcases mem_bump.1 hx with rfl | ⟨hx, _⟩
    · exact Int.le_refl _
    · have := h.upto x hx; omega
  · refine List.pairwise_cons.2 ⟨fun x hx e1 => ?_, h.keys.filter _⟩
    have hx' := (List.mem_filter.1 hx).1
    have hb : x.blk ≠ e.blk := by simpa using (List.mem_filter.1 hx).2
    exact hb (congrArg Ent.blk (keyInj h.keys hx' he e1.symm))
  · intro x hx
    rcases mem_bump.1 hx with rfl | ⟨hx, _⟩
    · exact h.kok e he
    · exact h.kok x hx
  · intro x hx
    rcases mem_bump.1 hx with rfl | ⟨hx, _⟩
    · exact h.bE e he
    · exact h.bE x hx
end
end Go.Proofs.Ytcpdjbcnhdjojaa.MI
