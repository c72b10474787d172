/- Codes and Pauli strings in memory. -/
import Derived.Test.YtfnmembjgclhoaaProg
import Derived.Test.YtfnmembjgclhoaaCodB
import Derived.Below
import Derived.WalkKit
import Derived.Tactics
import Derived.ProofKit
import Derived.OwnWalk
import Derived.KernelRfl
import Derived.WalkSpells
import Derived.WalkLawsBesides
import Derived.Lib.Hide
import Derived.Outline
import Derived.Deep.QuietTactic
import Derived.BigQuiet
import Derived.StillTailTactics
import Derived.RegionTactic
import Derived.BigRegion
import Derived.Shelf.SlSortCmp.QuietGrown
namespace Go.Proofs.Ytfnmembjgclhoaa.CD
open Go Go.RowKit
set_option linter.unusedVariables false
set_option linter.unusedSimpArgs false

def U (x : Nat) : Prop := x < 2 ^ 64
def I64 (n : Int) : Prop := -9223372036854775808 ≤ n ∧ n ≤ 9223372036854775807
structure Pau where
  n : Int
  x : Nat
  z : Nat
  ph : Int
structure WF (p : Pau) : Prop where
  x : U p.x
  z : U p.z
  n : I64 p.n
  ph : I64 p.ph
def Cells4 (w : World) (b o : Nat) (p : Pau) : Prop :=
  w.cell? ⟨b, o, none⟩ = some (.int .i64 p.n) ∧ w.cell? ⟨b, o + 1, none⟩ = some (.int .u64 p.x) ∧ w.cell? ⟨b, o + 2, none⟩ = some (.int .u64 p.z) ∧ w.cell? ⟨b, o + 3, none⟩ = some (.int .i64 p.ph)
structure Row (w : World) (a : Option Addr) (c : Nat) (ps : List Pau) : Prop where
  len : ps.length ≤ c
  cap : c ≤ 9223372036854775807
  sm : ps.length ≤ 4398046511104
  wf : ∀ p ∈ ps, WF p
  at_ : ps = [] ∨ ∃ b off, a = some ⟨b, off, none⟩ ∧ ∀ (j : Nat) (h : j < ps.length), Cells4 w b (off + j * 4) ps[j]

theorem block_lt {w : World} {b o : Nat} {v : Value} (h : w.cell? ⟨b, o, none⟩ = some v) : b < w.heap.size := World.block_lt_of_cell? w ⟨b, o, none⟩ h
theorem Cells4.below {w w' : World} {B b o : Nat} {p : Pau} (h : Cells4 w b o p) (hB : b < B) (hb : Below B w w') : Cells4 w' b o p :=
  ⟨(hb.cell (p := ⟨b, o, none⟩) hB).trans h.1, (hb.cell (p := ⟨b, o + 1, none⟩) hB).trans h.2.1, (hb.cell (p := ⟨b, o + 2, none⟩) hB).trans h.2.2.1, (hb.cell (p := ⟨b, o + 3, none⟩) hB).trans h.2.2.2⟩
theorem Row.below {w w' : World} {a : Option Addr} {c : Nat} {ps : List Pau} (h : Row w a c ps) (hb : Below w.heap.size w w') : Row w' a c ps :=
  { h with at_ := h.at_.imp id fun ⟨b, off, ha, hc⟩ => ⟨b, off, ha, fun j hj => (hc j hj).below (block_lt (hc j hj).1) hb⟩ }
theorem Row.at {w : World} {a : Option Addr} {c : Nat} {ps : List Pau} (h : Row w a c ps) (j : Nat) (hj : j < ps.length) :
    ∃ b o, b < w.heap.size ∧ (∀ W, (Instr.indexAt 22 (Value.slice a ps.length c) (.int .i64 j)).run Try.prog W = .ok (.pointer (some ⟨b, o, none⟩)) W) ∧ Cells4 w b o ps[j] := by
  rcases h.at_ with rfl | ⟨b, off, rfl, hc⟩
  · simp at hj
  · refine ⟨b, off + j * 4, block_lt (hc j hj).1, fun W => ?_, hc j hj⟩
    have hs : ∀ W, (Go.sizeOf (Try.prog.elem 22)).run Try.prog W = .ok 4 W := fun _ => by kernel_rfl
    rw [run_indexAt_slice _ 22 _ _ _ _ _ (by kernel_rfl), if_pos ⟨by omega, by exact_mod_cast hj⟩, hs]
    simp [Result.andThen, Addr.add]

theorem belowD {b : Nat} {w w' : World} (h : Below b w w') (n : Nat) : Below b w (w'.drewN n) := h.trans ⟨rfl, rfl, rfl, Nat.le_refl _, fun _ _ => rfl⟩
theorem below1 (w : World) (o : Obj) : Below w.heap.size w (w.alloc o) := (Below.refl _ _).alloc (Nat.le_refl _) _
theorem below2 (w : World) (o o' : Obj) : Below w.heap.size w ((w.alloc o).alloc o') := ((Below.refl _ _).alloc (Nat.le_refl _) _).alloc (by simp) _
theorem Below.into {B : Nat} {a b c : World} (h : Below B a b) (k : Below b.heap.size b c) (hB : B ≤ a.heap.size) : Below B a c := h.trans (k.mono (Nat.le_trans hB h.size))

theorem bcell {W w1 : World} (hb : Below W.heap.size W w1) : (∀ b o, b < W.heap.size → w1.cell? ⟨b, o, none⟩ = W.cell? ⟨b, o, none⟩) ∧ (∀ b o, b < W.heap.size → w1.frozen? ⟨b, o, none⟩ = W.frozen? ⟨b, o, none⟩) :=
  ⟨fun b o h => hb.cell (p := ⟨b, o, none⟩) h, fun b o h => hb.frozen (p := ⟨b, o, none⟩) h⟩

/-- w' is w behind some draws, with some blocks behind it. -/
def Grew (w w' : World) : Prop := ∃ q os', w' = Go.Sort.grow (w.drewN q) os'
theorem Grew.below {w w' : World} (h : Grew w w') : Below w.heap.size w w' := by
  obtain ⟨q, os, rfl⟩ := h
  exact ⟨rfl, rfl, rfl, by simp [Go.Sort.grow], fun k hk => Go.Sort.heap_grow_old _ _ hk⟩
theorem Grew.refl (w : World) : Grew w w := ⟨0, #[], by rw [Go.Sort.grow_empty]; rfl⟩
theorem Grew.alloc {w w' : World} (h : Grew w w') (o : Obj) : Grew w (w'.alloc o) := by
  obtain ⟨q, os, rfl⟩ := h
  exact ⟨q, _, by rw [Go.Sort.alloc_eq_grow, Go.Sort.grow_grow]⟩
theorem Grew.drewN {w w' : World} (h : Grew w w') (n : Nat) : Grew w (w'.drewN n) := by
  obtain ⟨q, os, rfl⟩ := h
  exact ⟨q + n, os, by rw [← World.drewN_drewN]; rfl⟩
theorem Grew.trans {a b c : World} (h : Grew a b) (k : Grew b c) : Grew a c := by
  obtain ⟨q, os, rfl⟩ := h
  obtain ⟨q', os', rfl⟩ := k
  exact ⟨q + q', os ++ os', by rw [← Go.Sort.grow_grow, ← World.drewN_drewN]; rfl⟩
theorem grown_old {w : World} (n : Nat) (os : Array Obj) (b o : Nat) (h : b < w.heap.size) : (Go.Sort.grow (w.drewN n) os).cell? ⟨b, o, none⟩ = w.cell? ⟨b, o, none⟩ := Go.Sort.cell?_grow _ _ _ (by exact h)
theorem grown_free {w : World} (n : Nat) (os : Array Obj) (b o : Nat) (h : b < w.heap.size) : (Go.Sort.grow (w.drewN n) os).frozen? ⟨b, o, none⟩ = w.frozen? ⟨b, o, none⟩ := Go.Sort.frozen?_grow _ _ _ (by exact h)
theorem mixed : Try.prog.follows .mixedOrders = true := by kernel_rfl

theorem cell_of {w : World} {b i : Nat} {c : Array Value} {T : TypeId} {v : Value} (h : w.heap[b]? = some (.cells c T (0, 0))) (hi : c[i]? = some v) : w.cell? ⟨b, i, none⟩ = some v := by
  simp [World.cell?, h, hi]
theorem free_of {w : World} {b i : Nat} {c : Array Value} {T : TypeId} (h : w.heap[b]? = some (.cells c T (0, 0))) : w.frozen? ⟨b, i, none⟩ = false := by
  simp [World.frozen?, h]
theorem Cells4.of {w : World} {b : Nat} {p : Pau} (h : w.heap[b]? = some (Obj.cells #[.int .i64 p.n, .int .u64 p.x, .int .u64 p.z, .int .i64 p.ph] 27)) : Cells4 w b 0 p := ⟨cell_of h rfl, cell_of h rfl, cell_of h rfl, cell_of h rfl⟩
theorem four (w : World) (a b c d : Obj) : ((((w.alloc a).alloc b).alloc c).alloc d).heap[w.heap.size]? = some a ∧ ((((w.alloc a).alloc b).alloc c).alloc d).heap[w.heap.size + 1]? = some b ∧
    ((((w.alloc a).alloc b).alloc c).alloc d).heap[w.heap.size + 1 + 1]? = some c ∧ ((((w.alloc a).alloc b).alloc c).alloc d).heap[w.heap.size + 1 + 1 + 1]? = some d := by
  have new : ∀ (w : World) (o : Obj), (w.alloc o).heap[w.heap.size]? = some o := fun w o => (MapKept.heap_alloc w o).1
  have old : ∀ (w : World) (o : Obj) (k : Nat), k < w.heap.size → (w.alloc o).heap[k]? = w.heap[k]? := fun w o k h => (MapKept.heap_alloc w o).2 k h
  have sz : ∀ (w : World) (o : Obj), (w.alloc o).heap.size = w.heap.size + 1 := fun w o => by simp
  have e1 := sz w a
  have e2 := sz (w.alloc a) b
  have e3 := sz ((w.alloc a).alloc b) c
  refine ⟨?_, ?_, ?_, ?_⟩
  · rw [old _ _ _ (by omega), old _ _ _ (by omega), old _ _ _ (by omega), new]
  · rw [old _ _ _ (by omega), old _ _ _ (by omega), ← e1, new]
  · rw [old _ _ _ (by omega), ← e1, ← e2, new]
  · rw [← e1, ← e2, ← e3, new]

structure Cod where
  n : Int
  ga : Option Addr
  gc : Nat
  gs : List Pau
  xa : Option Addr
  xc : Nat
  xs : List Pau
  za : Option Addr
  zc : Nat
  zs : List Pau
structure CodAt (w : World) (c : Cod) : Prop where
  n : I64 c.n
  g : Row w c.ga c.gc c.gs
  x : Row w c.xa c.xc c.xs
  z : Row w c.za c.zc c.zs
theorem CodAt.below {w w' : World} {c : Cod} (h : CodAt w c) (hb : Below w.heap.size w w') : CodAt w' c := ⟨h.n, h.g.below hb, h.x.below hb, h.z.below hb⟩
end Go.Proofs.Ytfnmembjgclhoaa.CD
