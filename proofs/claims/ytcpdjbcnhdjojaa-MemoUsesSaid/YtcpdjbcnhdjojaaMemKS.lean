/- Memos with keys of one kind: Keys: the entries collected, sorted, their keys. -/
import Derived.Test.YtcpdjbcnhdjojaaMemUS
import Derived.Test.YtcpdjbcnhdjojaaShelf
import Derived.Shelf.SlSortCmp.NoneTotal
import Derived.Laws.OwnMore
namespace Go.Proofs.Ytcpdjbcnhdjojaa.MS
open Go.RowKit Go.Maps
set_option linter.unusedVariables false
set_option linter.unusedSimpArgs false

/-! the comparison -/
def cmpI (a b : Int) : Int := if a < b then -1 else if b < a then 1 else 0
set_option maxRecDepth 100000 in
theorem Compare_calls (a b : Int) (w : World) : Calls Try.prog 21 #[.int .u64 a, .int .u64 b] w fun e w' => e = .returned (.int .i64 (cmpI a b)) ∧ w' = w := by
  unfold cmpI
  by_cases h1 : a < b
  · rw [if_pos h1]
    go_enter Try.func21, Try.ntmps21
    go_wp2
    go_ret
    exact ⟨rfl, rfl⟩
  · rw [if_neg h1]
    have d1 : decide (a < b) = false := decide_eq_false h1
    by_cases h2 : b < a
    · rw [if_pos h2]
      go_enter Try.func21, Try.ntmps21
      go_wp2
      go_ret
      exact ⟨rfl, rfl⟩
    · rw [if_neg h2]
      have d2 : decide (b < a) = false := decide_eq_false h2
      go_enter Try.func21, Try.ntmps21
      go_wp2
      go_ret
      exact ⟨rfl, rfl⟩
theorem cmpI_neg {a b : Int} : (cmpI a b < 0) ↔ a < b := by
  unfold cmpI
  split
  · simp; assumption
  · split <;> simp <;> omega

set_option maxRecDepth 100000 in
theorem closure_calls (x y : Ent) (W : World) (hx : EntAt W x) (hy : EntAt W y) : Calls Try.prog 24 #[.pointer (some ⟨x.blk, 0, none⟩), .pointer (some ⟨y.blk, 0, none⟩)] W fun e w' => e = .returned (.int .i64 (cmpI y.used x.used)) ∧ ∃ q, w' = W.drewN q := by
  have a2 : W.cell? ⟨x.blk, 2, none⟩ = some (.int .u64 x.used) := cell_of hx rfl
  have b2 : W.cell? ⟨y.blk, 2, none⟩ = some (.int .u64 y.used) := cell_of hy rfl
  have hc := fun w => Compare_calls y.used x.used w
  clear hx hy
  generalize cmpI y.used x.used = r at hc ⊢
  go_enter Try.func24, Try.ntmps24
  go_wp2
  go_quiet ((go_at_call 21; exact Calls.quiet_of_same (hc _)))
  go_wp2
  go_ret
  exact ⟨rfl, nq, rfl⟩

/-! the plain law: what is sorted is the list -/
theorem eq_of_mem_desc : ∀ {l₁ l₂ : List Ent}, l₁.Pairwise (fun a b => b.used < a.used) → l₂.Pairwise (fun a b => b.used < a.used) → (∀ p, p ∈ l₁ ↔ p ∈ l₂) → l₁ = l₂
  | [], [], _, _, _ => rfl
  | [], b :: s, _, _, h => by have := (h b).2 (by simp); simp at this
  | a :: r, [], _, _, h => by have := (h a).1 (by simp); simp at this
  | a :: r, b :: s, h1, h2, h => by
    obtain ⟨a1, a2⟩ := List.pairwise_cons.1 h1
    obtain ⟨b1, b2⟩ := List.pairwise_cons.1 h2
    have hab : a = b := by
      rcases List.mem_cons.1 ((h a).1 (by simp)) with e | ha
      · exact e
      · rcases List.mem_cons.1 ((h b).2 (by simp)) with e | hb
        · exact e.symm
        · have := a1 b hb; have := b1 a ha; omega
    subst hab
    rw [eq_of_mem_desc a2 b2 (fun p => ⟨fun hp => by
      rcases List.mem_cons.1 ((h p).1 (by simp [hp])) with e | hp'
      · have := a1 p hp; rw [e] at this; omega
      · exact hp', fun hp => by
      rcases List.mem_cons.1 ((h p).2 (by simp [hp])) with e | hp'
      · have := b1 p hp; rw [e] at this; omega
      · exact hp'⟩)]

abbrev In (st : List Ent) := { e : Ent // e ∈ st }
def encI {st : List Ent} (x : In st) : Value := .pointer (some ⟨x.1.blk, 0, none⟩)
def cfI {st : List Ent} (x y : In st) : Int := cmpI y.1.used x.1.used
theorem ltI {st : List Ent} (x y : In st) : Go.Proofs.ltOf cfI x y = decide (y.1.used < x.1.used) := by
  unfold Go.Proofs.ltOf cfI
  simp only [decide_eq_decide]
  exact cmpI_neg
theorem swoI {st : List Ent} : Go.Sort.SWO (Go.Proofs.ltOf (cfI (st := st))) where
  irrefl x := by rw [ltI]; simp
  trans x y z h1 h2 := by rw [ltI] at *; simp at *; omega
  ntrans x y z h1 h2 := by rw [ltI] at *; simp at *; omega

theorem sorted_is {st : List Ent} [Inhabited (In st)] (hd : st.Pairwise (fun a b => b.used < a.used)) {js : List (In st)} (hn : js.Nodup) (hm : ∀ e : In st, e ∈ js) {d' : Array (In st)}
    (hp : Go.Sort.PermIn 0 js.toArray.size js.toArray d') (hs : Go.Sort.SortedIn (Go.Proofs.ltOf cfI) 0 js.toArray.size d') : d'.toList.map (·.1) = st := by
  obtain ⟨hsz, _, hperm⟩ := hp
  have e1 : d'.extract 0 js.toArray.size = d' := by rw [← hsz]; exact Array.extract_size
  rw [e1, Array.extract_size] at hperm
  have hn' : d'.toList.Nodup := hperm.nodup_iff.2 hn
  refine eq_of_mem_desc ?_ hd (fun p => ?_)
  · rw [List.pairwise_map, List.pairwise_iff_getElem]
    intro i j hi hj hij
    have hi' : i < d'.size := by simpa using hi
    have hj' : j < d'.size := by simpa using hj
    have h1 := hs i j (Nat.zero_le _) hij (by rw [← hsz]; exact hj')
    rw [ltI, getElem!_pos d' i hi', getElem!_pos d' j hj'] at h1
    have h2 : (d'[i]'hi').1.used ≠ (d'[j]'hj').1.used := by
      intro e
      have h3 : (d'[i]'hi') = (d'[j]'hj') := Subtype.ext (MemoAt.usedInj hd (d'[i]'hi').2 (d'[j]'hj').2 e)
      have h4 := (List.pairwise_iff_getElem.1 hn') i j hi hj hij
      exact h4 (by simpa using h3)
    simp at h1
    have h5 : d'.toList[i] = d'[i]'hi' := by simp
    have h6 : d'.toList[j] = d'[j]'hj' := by simp
    rw [h5, h6]
    omega
  · rw [List.mem_map]
    constructor
    · rintro ⟨a, _, rfl⟩; exact a.2
    · intro hp
      exact ⟨⟨p, hp⟩, hperm.mem_iff.2 (by simpa using hm ⟨p, hp⟩), rfl⟩

theorem sortWorld_other {α : Type} [Inhabited α] (enc : α → Value) (w : World) (blk off n : Nat) (d : Array α) (os : Array Obj) {j : Nat} (hj : j < w.heap.size) (hne : j ≠ blk) : (Go.Proofs.sortWorld enc w blk off n d os).heap[j]? = w.heap[j]? := by
  unfold Go.Proofs.sortWorld
  rw [Go.Sort.heap_grow_old _ _ (by simpa using hj)]
  show (w.heap.modify blk _)[j]? = _
  rw [Array.getElem?_modify, if_neg (Ne.symm hne)]
theorem sortWorld_below {α : Type} [Inhabited α] (enc : α → Value) (w : World) (blk off n : Nat) (d : Array α) (os : Array Obj) {b : Nat} (hb : b ≤ blk) (hw : blk < w.heap.size) : Below b w (Go.Proofs.sortWorld enc w blk off n d os) :=
  ⟨rfl, rfl, rfl, by simp [Go.Proofs.sortWorld], fun j hj => sortWorld_other enc w blk off n d os (by omega) (by omega)⟩
end Go.Proofs.Ytcpdjbcnhdjojaa.MS
