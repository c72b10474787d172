/-
  No cell of these rows narrows 'for every input' (looked for: loops, veiled, ifaces, maps, wideKeys, modest, calm, conditions, laid).
  DERIVED. THE GIVEN ROWS OF THIS SEAT. 2 by the template 'for every input the law returns true; each argument reads behind the call as it read before'; 0 by the template 'total and deterministic' (their statements: YtcpdjbcnhdjojaaTotals.lean).
  GIVEN WITH THE SEED: the statements are not yours to turn. If you find one false, say at which input.
  Laid BY PROGRAM, IN A SANDBOX (cutbox-rows.mjs): the forced cells as the released guide's own fill.sh prints them over the translation f7b8148540f48191… (all of the seat's roots in one cut). By AI agents, Wed Nov 11 2026. No macro, syntax, notation, axiom, sorry.
-/
import Derived.Test.YtcpdjbcnhdjojaaChecked
import GoSem.Claim
import GoSem.ClaimJoined
import GoSem.ClaimMapViews
import Derived.JoinedTies
import Derived.KernelRfl
namespace Go.Proofs.Ytcpdjbcnhdjojaa
/- THE CELL 'sum', in the pinned program and in every row, IS THE sha256 OF THE DUMP (.gsa) THAT YtcpdjbcnhdjojaaProg.lean LOADS. Nothing in Lean hashes anything: it is a label: what it is worth is what the hold of that sum in a sandbox is worth. -/
noncomputable def Try.pinned : Pinned := { name := "ytcpdjbcnhdjojaa", sum := "f7b8148540f481915e675fa55b9173b0273d8a6edb7f06a831d62d79f25cd491", checked := Try.checked }
namespace Rows
def none {H : Type} : Left H := { results := [], args := [] }

/-- 'cubitlaw26.MemoRoom': WHATEVER THE INPUT: true; the input reads as it did. -/
def memoRoomSpec : ChangeSpec := { name := "memoRoom", fn := fun _ => fun
  | [d1, d2, d3] => { results := [.lit (.bool true)], args := [d1, d2, d3] }
  | _ => none }
def memoRoomRow : OpenClaim := { program := "ytcpdjbcnhdjojaa", sum := "f7b8148540f481915e675fa55b9173b0273d8a6edb7f06a831d62d79f25cd491", func := "cubit/cubitlaw26.MemoRoom", spec := "memoRoom", unfollowed := true, recurses := true, apart := false }
def MemoRoomSaid : Prop := memoRoomRow.holds Try.pinned (OpenSpec.ofChange memoRoomSpec)

/-- ITS FALSE NEIGHBOUR: 'it returns false'. Refute it at one input. -/
def memoRoomWrong : ChangeSpec := { name := "memoRoom", fn := fun _ => fun
  | [d1, d2, d3] => { results := [.lit (.bool false)], args := [d1, d2, d3] }
  | _ => none }
def MemoRoomWrongFalsely : Prop := memoRoomRow.holds Try.pinned (OpenSpec.ofChange memoRoomWrong)

/-- 'cubitlaw26.MemoUses': WHATEVER THE INPUT: true; the input reads as it did. -/
def memoUsesSpec : ChangeSpec := { name := "memoUses", fn := fun _ => fun
  | [d1, d2] => { results := [.lit (.bool true)], args := [d1, d2] }
  | _ => none }
def memoUsesRow : OpenClaim := { program := "ytcpdjbcnhdjojaa", sum := "f7b8148540f481915e675fa55b9173b0273d8a6edb7f06a831d62d79f25cd491", func := "cubit/cubitlaw26.MemoUses", spec := "memoUses", unfollowed := true, recurses := true, apart := false }
def MemoUsesSaid : Prop := memoUsesRow.holds Try.pinned (OpenSpec.ofChange memoUsesSpec)

/-- ITS FALSE NEIGHBOUR: 'it returns false'. Refute it at one input. -/
def memoUsesWrong : ChangeSpec := { name := "memoUses", fn := fun _ => fun
  | [d1, d2] => { results := [.lit (.bool false)], args := [d1, d2] }
  | _ => none }
def MemoUsesWrongFalsely : Prop := memoUsesRow.holds Try.pinned (OpenSpec.ofChange memoUsesWrong)

/- THE SECOND FORM. 'bulk': how many values and letters a reading holds, each counted each time it is reached (what is shared counts as often as it is met; a slice's spare places count too). A statement '..UptoSaid' is the law's where the arguments, and the package variables that the reading takes, are together of bulk at most 1048576: NARROWER than '..Said'. Prove '..Said' where nothing that the law and all that it calls make is longer than what came in: it says more and counts as full. Else prove '..UptoSaid'. A law counts once. -/
mutual
def uptoBulk {H : Type} : DataW H → Nat
  | .lit (.string bytes) => bytes.length + 1
  | .lit _ => 1
  | .nil => 1
  | .ptr d => uptoBulk d + 1
  | .slice elems spare => uptoBulkAll elems + uptoBulkAll spare + 1
  | .agg parts => uptoBulkAll parts + 1
  | .iface _ d => uptoBulk d + 1
  | .map entries => uptoBulkEntries entries + 1
  | .held _ => 1
def uptoBulkAll {H : Type} : List (DataW H) → Nat
  | [] => 0
  | d :: r => uptoBulk d + uptoBulkAll r
def uptoBulkEntries {H : Type} : List (Lit × DataW H) → Nat
  | [] => 0
  | x :: r => uptoBulkEntry x + uptoBulkEntries r
def uptoBulkEntry {H : Type} : Lit × DataW H → Nat
  | (.string bytes, d) => bytes.length + uptoBulk d + 1
  | (_, d) => uptoBulk d + 1
 end
def uptoSmall : (H : Type) → List (DataW H) → Bool := fun _ ds => decide (uptoBulkAll ds ≤ 1048576)
def OpenSpec.upto (s : _root_.Go.ChangeSpec) : _root_.Go.OpenSpec := { _root_.Go.OpenSpec.ofChange s with cond := some uptoSmall }

/-- 'cubitlaw26.MemoRoom', WHERE WHAT IT READS IS OF BULK AT MOST 1048576: true; the input reads as it did. -/
def memoRoomUptoRow : OpenClaim := { program := "ytcpdjbcnhdjojaa", sum := "f7b8148540f481915e675fa55b9173b0273d8a6edb7f06a831d62d79f25cd491", func := "cubit/cubitlaw26.MemoRoom", spec := "memoRoom", unfollowed := true, recurses := true, apart := false, narrowed := true }
def MemoRoomUptoSaid : Prop := memoRoomUptoRow.holds Try.pinned (OpenSpec.upto memoRoomSpec)

/-- 'cubitlaw26.MemoUses', WHERE WHAT IT READS IS OF BULK AT MOST 1048576: true; the input reads as it did. -/
def memoUsesUptoRow : OpenClaim := { program := "ytcpdjbcnhdjojaa", sum := "f7b8148540f481915e675fa55b9173b0273d8a6edb7f06a831d62d79f25cd491", func := "cubit/cubitlaw26.MemoUses", spec := "memoUses", unfollowed := true, recurses := true, apart := false, narrowed := true }
def MemoUsesUptoSaid : Prop := memoUsesUptoRow.holds Try.pinned (OpenSpec.upto memoUsesSpec)

end Rows
end Go.Proofs.Ytcpdjbcnhdjojaa
