/- bits.Subsets: the function that it hands back, walked once for whatever loop body. -/
import Derived.Test.YtoebcbhadcpcoaaDoorPAx0
import Derived.RangeFuncNested
import Derived.RangeFuncBound
import Derived.RangeFuncCalls
import Derived.RangeFuncLeaves
import Derived.Shelf.Abstract
import Derived.Shelf.RegionOpen
import Derived.WalkKit
import Derived.OwnWalkIn
import Derived.TacticsInMore
import Derived.LoopNIn
import Derived.LoopIn
import Derived.Sort.LoopGhostIn
namespace Go.Proofs.YtoebcbhadcpcoaaDoor.PA
open Go.RowKit Go.Shelf
attribute [local go_sem] Oper.semAt_some
set_option linter.unusedVariables false

/-- What the sets of a mask must be: the first nought, each next one (s - mask) & mask, the last one the mask. -/
structure SetSeq (m : Int) (N : Nat) (f : Nat → Int) : Prop where
  pos : 1 ≤ N
  zero : f 0 = 0
  next : ∀ j, Go.bits .and .u64 (IntKind.u64.wrap (f j - m)) m = f (j + 1)
  last : ∀ j, j < N → (f j = m ↔ j + 1 = N)

set_option maxRecDepth 100000 in
set_option maxHeartbeats 2000000 in
theorem subsets_stops (F : Fence) (n : Nat) (h43 : F.fn 43) (hro : F.round = none) (hn : 1 ≤ n) (Bm n₀ : Nat) (m : Int) (N : Nat) (f : Nat → Int) (hs : SetSeq m N f) (w : World) (hB : Bm < n₀) (hn0 : n₀ ≤ w.heap.size)
    (hm : w.cell? ⟨Bm, 0, none⟩ = some (.int .u64 m)) :
    SeqStopsK F n Tryd.prog 43 #[.pointer (some ⟨Bm, 0, none⟩)] (fun x : Int => #[Value.int .u64 x]) (Below n₀) (fun xs => xs = (List.range N).map f) (fun pre => ∃ j, j ≤ N ∧ pre = (List.range j).map f) N w := fun l J Jx W hW hJ hJx hY h0 => by
  refine callsIn_of_wp Tryd.func43 rfl h43 ?_ hro
  simp only [Tryd.ntmps43, List.size_toArray, List.length_cons, List.length_nil, Nat.reduceAdd, Nat.reduceSub, Array.replicate_succ, Array.replicate_zero, List.push_toArray, List.append_toArray, List.nil_append, List.cons_append]
  have hm1 : W.cell? ⟨Bm, 0, none⟩ = some (.int .u64 m) := (hW.cell (p := ⟨Bm, 0, none⟩) (Nat.lt_of_lt_of_le hB hn0)).trans hm
  gi_wp2
  gi_loopg [3] N (fun k p wr => ∃ j : Nat, p = .int .u64 (f j) ∧ k = N - j ∧ j < N ∧ wr.cell? ⟨Bm, 0, none⟩ = some (.int .u64 m) ∧ J ((List.range j).map f) wr)
  case atStart => exact ⟨0, by rw [hs.zero], by omega, hs.pos, hm1, h0⟩
  case round =>
    obtain ⟨j, rfl, rfl, hj, hc, hJ1⟩ := hrel
    obtain ⟨fn, tmps, assign, body, hy, hR⟩ := hY _ (f j) wr hJ1 (by simpa using hj)
    have hsn : (List.range j).map f ++ [f j] = (List.range (j + 1)).map f := by rw [List.range_succ, List.map_append]; rfl
    rw [hsn] at hR
    have hlast := hs.last j hj
    gi_wp2
    refine hR.mono ?_
    rintro e W3 (⟨rfl, hJ3, hk3⟩ | ⟨rfl, hJx3⟩)
    · have hc3 : W3.cell? ⟨Bm, 0, none⟩ = some (.int .u64 m) := (hk3.cell (p := ⟨Bm, 0, none⟩) hB).trans hc
      by_cases hjN : j + 1 = N
      · have hfm : (f j != m) = false := by rw [bne_eq_false_iff_eq]; exact hlast.2 hjN
        gi_wp2
        go_end0
        exact ⟨⟨_, rfl⟩, .inl ⟨_, by rw [hjN], hJ3⟩⟩
      · have hfm : (f j != m) = true := by rw [bne_iff_ne]; exact fun h => hjN (hlast.1 h)
        have hnx := hs.next j
        gi_wp2
        gi_roundg (N - (j + 1))
        case measure => omega
        case rel => exact ⟨j + 1, rfl, rfl, by omega, hc3, hJ3⟩
    · gi_wp2
      go_end0
      exact ⟨⟨_, rfl⟩, .inr ⟨_, ⟨j + 1, hj, rfl⟩, hJx3⟩⟩
end Go.Proofs.YtoebcbhadcpcoaaDoor.PA
