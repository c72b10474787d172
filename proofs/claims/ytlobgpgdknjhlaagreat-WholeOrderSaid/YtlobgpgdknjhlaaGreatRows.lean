/-
  No cell of these rows narrows 'for every input' (looked for: loops, veiled, ifaces, maps, wideKeys, modest, calm, conditions, laid).
  DERIVED. THE GIVEN ROWS OF THIS SEAT. 3 by the template 'for every input the law returns true; each argument reads behind the call as it read before'; 0 by the template 'total and deterministic' (their statements: YtlobgpgdknjhlaaGreatTotals.lean).
  GIVEN WITH THE SEED: the statements are not yours to turn. If you find one false, say at which input.
  Laid BY PROGRAM, IN A SANDBOX (cutbox-rows.mjs): the forced cells as the released guide's own fill.sh prints them over the translation d4439d7f2be4bbaf… (all of the seat's roots in one cut). By AI agents, Wed Nov 11 2026. No macro, syntax, notation, axiom, sorry.
-/
import Derived.Test.YtlobgpgdknjhlaaGreatChecked
import GoSem.Claim
import GoSem.ClaimJoined
import GoSem.ClaimMapViews
import Derived.JoinedTies
import Derived.KernelRfl
namespace Go.Proofs.YtlobgpgdknjhlaaGreat
/- THE CELL 'sum', in the pinned program and in every row, IS THE sha256 OF THE DUMP (.gsa) THAT YtlobgpgdknjhlaaGreatProg.lean LOADS. Nothing in Lean hashes anything: it is a label: what it is worth is what the hold of that sum in a sandbox is worth. -/
noncomputable def Tryz.pinned : Pinned := { name := "ytlobgpgdknjhlaagreat", sum := "d4439d7f2be4bbafabaa5acec59ea193b3ae51ae4645ac2ab8a2f9de0f7ce67b", checked := Tryz.checked }
namespace Rows
def none {H : Type} : Left H := { results := [], args := [] }

/-- 'cubittop.WholeGates': WHATEVER THE INPUT: true; the input reads as it did. -/
def wholeGatesSpec : ChangeSpec := { name := "wholeGates", fn := fun _ => fun
  | [d1, d2, d3, d4] => { results := [.lit (.bool true)], args := [d1, d2, d3, d4] }
  | _ => none }
def wholeGatesRow : OpenClaim := { program := "ytlobgpgdknjhlaagreat", sum := "d4439d7f2be4bbafabaa5acec59ea193b3ae51ae4645ac2ab8a2f9de0f7ce67b", func := "cubit/cubittop.WholeGates", spec := "wholeGates", inPlace := ["math.archTrunc", "math.Float64bits", "math.Float64frombits"], unfollowed := true, recurses := true, apart := false }
def WholeGatesSaid : Prop := wholeGatesRow.holds Tryz.pinned (OpenSpec.ofChange wholeGatesSpec)

/-- ITS FALSE NEIGHBOUR: 'it returns false'. Refute it at one input. -/
def wholeGatesWrong : ChangeSpec := { name := "wholeGates", fn := fun _ => fun
  | [d1, d2, d3, d4] => { results := [.lit (.bool false)], args := [d1, d2, d3, d4] }
  | _ => none }
def WholeGatesWrongFalsely : Prop := wholeGatesRow.holds Tryz.pinned (OpenSpec.ofChange wholeGatesWrong)

/-- 'cubittop.WholePaths': WHATEVER THE INPUT: true; the input reads as it did. -/
def wholePathsSpec : ChangeSpec := { name := "wholePaths", fn := fun _ => fun
  | [d1, d2] => { results := [.lit (.bool true)], args := [d1, d2] }
  | _ => none }
def wholePathsRow : OpenClaim := { program := "ytlobgpgdknjhlaagreat", sum := "d4439d7f2be4bbafabaa5acec59ea193b3ae51ae4645ac2ab8a2f9de0f7ce67b", func := "cubit/cubittop.WholePaths", spec := "wholePaths", inPlace := ["math.archTrunc", "math.Float64bits", "math.Float64frombits"], unfollowed := true, recurses := true, apart := false }
def WholePathsSaid : Prop := wholePathsRow.holds Tryz.pinned (OpenSpec.ofChange wholePathsSpec)

/-- ITS FALSE NEIGHBOUR: 'it returns false'. Refute it at one input. -/
def wholePathsWrong : ChangeSpec := { name := "wholePaths", fn := fun _ => fun
  | [d1, d2] => { results := [.lit (.bool false)], args := [d1, d2] }
  | _ => none }
def WholePathsWrongFalsely : Prop := wholePathsRow.holds Tryz.pinned (OpenSpec.ofChange wholePathsWrong)

/-- 'cubittop.WholeOrder': WHATEVER THE INPUT: true; the input reads as it did. -/
def wholeOrderSpec : ChangeSpec := { name := "wholeOrder", fn := fun _ => fun
  | [d1, d2] => { results := [.lit (.bool true)], args := [d1, d2] }
  | _ => none }
def wholeOrderRow : OpenClaim := { program := "ytlobgpgdknjhlaagreat", sum := "d4439d7f2be4bbafabaa5acec59ea193b3ae51ae4645ac2ab8a2f9de0f7ce67b", func := "cubit/cubittop.WholeOrder", spec := "wholeOrder", inPlace := ["math.archTrunc", "math.Float64bits", "math.Float64frombits"], unfollowed := true, recurses := true, apart := false }
def WholeOrderSaid : Prop := wholeOrderRow.holds Tryz.pinned (OpenSpec.ofChange wholeOrderSpec)

/-- ITS FALSE NEIGHBOUR: 'it returns false'. Refute it at one input. -/
def wholeOrderWrong : ChangeSpec := { name := "wholeOrder", fn := fun _ => fun
  | [d1, d2] => { results := [.lit (.bool false)], args := [d1, d2] }
  | _ => none }
def WholeOrderWrongFalsely : Prop := wholeOrderRow.holds Tryz.pinned (OpenSpec.ofChange wholeOrderWrong)

/- THE SECOND FORM. 'bulk': how many values and letters a reading holds, each counted each time it is reached (what is shared counts as often as it is met; a slice's spare places count too). A statement '..UptoSaid' is the law's where the arguments, and the package variables that the reading takes, are together of bulk at most 1048576: NARROWER than '..Said'. Prove '..Said' where nothing that the law and all that it calls make is longer than what came in: it says more and counts as full. Else prove '..UptoSaid'. A law counts once. -/
mutual
def uptoBulk {H : Type} : DataW H → Nat
  | .lit (.string bytes) => bytes.length + 1
  | .lit _ => 1
  | .nil => 1
  | .ptr d => uptoBulk d + 1
  | .slice elems spare => uptoBulkAll elems + uptoBulkAll spare + 1
  | .agg parts => uptoBulkAll parts + 1
  | .iface _ d => uptoBulk d + 1
  | .map entries => uptoBulkEntries entries + 1
  | .held _ => 1
def uptoBulkAll {H : Type} : List (DataW H) → Nat
  | [] => 0
  | d :: r => uptoBulk d + uptoBulkAll r
def uptoBulkEntries {H : Type} : List (Lit × DataW H) → Nat
  | [] => 0
  | x :: r => uptoBulkEntry x + uptoBulkEntries r
def uptoBulkEntry {H : Type} : Lit × DataW H → Nat
  | (.string bytes, d) => bytes.length + uptoBulk d + 1
  | (_, d) => uptoBulk d + 1
 end
def uptoSmall : (H : Type) → List (DataW H) → Bool := fun _ ds => decide (uptoBulkAll ds ≤ 1048576)
def OpenSpec.upto (s : _root_.Go.ChangeSpec) : _root_.Go.OpenSpec := { _root_.Go.OpenSpec.ofChange s with cond := some uptoSmall }

/-- 'cubittop.WholeGates', WHERE WHAT IT READS IS OF BULK AT MOST 1048576: true; the input reads as it did. -/
def wholeGatesUptoRow : OpenClaim := { program := "ytlobgpgdknjhlaagreat", sum := "d4439d7f2be4bbafabaa5acec59ea193b3ae51ae4645ac2ab8a2f9de0f7ce67b", func := "cubit/cubittop.WholeGates", spec := "wholeGates", inPlace := ["math.archTrunc", "math.Float64bits", "math.Float64frombits"], unfollowed := true, recurses := true, apart := false, narrowed := true }
def WholeGatesUptoSaid : Prop := wholeGatesUptoRow.holds Tryz.pinned (OpenSpec.upto wholeGatesSpec)

/-- 'cubittop.WholePaths', WHERE WHAT IT READS IS OF BULK AT MOST 1048576: true; the input reads as it did. -/
def wholePathsUptoRow : OpenClaim := { program := "ytlobgpgdknjhlaagreat", sum := "d4439d7f2be4bbafabaa5acec59ea193b3ae51ae4645ac2ab8a2f9de0f7ce67b", func := "cubit/cubittop.WholePaths", spec := "wholePaths", inPlace := ["math.archTrunc", "math.Float64bits", "math.Float64frombits"], unfollowed := true, recurses := true, apart := false, narrowed := true }
def WholePathsUptoSaid : Prop := wholePathsUptoRow.holds Tryz.pinned (OpenSpec.upto wholePathsSpec)

/-- 'cubittop.WholeOrder', WHERE WHAT IT READS IS OF BULK AT MOST 1048576: true; the input reads as it did. -/
def wholeOrderUptoRow : OpenClaim := { program := "ytlobgpgdknjhlaagreat", sum := "d4439d7f2be4bbafabaa5acec59ea193b3ae51ae4645ac2ab8a2f9de0f7ce67b", func := "cubit/cubittop.WholeOrder", spec := "wholeOrder", inPlace := ["math.archTrunc", "math.Float64bits", "math.Float64frombits"], unfollowed := true, recurses := true, apart := false, narrowed := true }
def WholeOrderUptoSaid : Prop := wholeOrderUptoRow.holds Tryz.pinned (OpenSpec.upto wholeOrderSpec)

end Rows
end Go.Proofs.YtlobgpgdknjhlaaGreat
