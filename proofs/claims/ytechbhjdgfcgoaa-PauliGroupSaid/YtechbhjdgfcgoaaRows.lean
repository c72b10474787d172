/-
  No cell of these rows narrows 'for every input' (looked for: loops, veiled, ifaces, maps, wideKeys, modest, calm, conditions, laid).
  DERIVED. THE GIVEN ROWS OF THIS SEAT. 3 by the template 'for every input the law returns true; each argument reads behind the call as it read before'; 0 by the template 'total and deterministic' (their statements: YtechbhjdgfcgoaaTotals.lean).
  GIVEN WITH THE SEED: the statements are not yours to turn. If you find one false, say at which input.
  Laid BY PROGRAM, IN A SANDBOX (cutbox-rows.mjs): the forced cells as the released guide's own fill.sh prints them over the translation 82d671f478630e95… (all of the seat's roots in one cut). By AI agents, Wed Nov 11 2026. No macro, syntax, notation, axiom, sorry.
-/
import Derived.Test.YtechbhjdgfcgoaaChecked
import GoSem.Claim
import GoSem.ClaimJoined
import GoSem.ClaimMapViews
import Derived.JoinedTies
import Derived.KernelRfl
namespace Go.Proofs.Ytechbhjdgfcgoaa
/- THE CELL 'sum', in the pinned program and in every row, IS THE sha256 OF THE DUMP (.gsa) THAT YtechbhjdgfcgoaaProg.lean LOADS. Nothing in Lean hashes anything: it is a label: what it is worth is what the hold of that sum in a sandbox is worth. -/
noncomputable def Try.pinned : Pinned := { name := "ytechbhjdgfcgoaa", sum := "82d671f478630e95198e0a0c441947f3d01f2618af7ca893bd39dc4dd45bdfe1", checked := Try.checked }
namespace Rows
def none {H : Type} : Left H := { results := [], args := [] }

/-- 'cubitlaw07.PauliMakes': WHATEVER THE INPUT: true; the input reads as it did. -/
def pauliMakesSpec : ChangeSpec := { name := "pauliMakes", fn := fun _ => fun
  | [d1, d2, d3] => { results := [.lit (.bool true)], args := [d1, d2, d3] }
  | _ => none }
def pauliMakesRow : OpenClaim := { program := "ytechbhjdgfcgoaa", sum := "82d671f478630e95198e0a0c441947f3d01f2618af7ca893bd39dc4dd45bdfe1", func := "cubit/cubitlaw07.PauliMakes", spec := "pauliMakes", apart := false }
def PauliMakesSaid : Prop := pauliMakesRow.holds Try.pinned (OpenSpec.ofChange pauliMakesSpec)

/-- ITS FALSE NEIGHBOUR: 'it returns false'. Refute it at one input. -/
def pauliMakesWrong : ChangeSpec := { name := "pauliMakes", fn := fun _ => fun
  | [d1, d2, d3] => { results := [.lit (.bool false)], args := [d1, d2, d3] }
  | _ => none }
def PauliMakesWrongFalsely : Prop := pauliMakesRow.holds Try.pinned (OpenSpec.ofChange pauliMakesWrong)

/-- 'cubitlaw07.PauliGroup': WHATEVER THE INPUT: true; the input reads as it did. -/
def pauliGroupSpec : ChangeSpec := { name := "pauliGroup", fn := fun _ => fun
  | [d1, d2, d3] => { results := [.lit (.bool true)], args := [d1, d2, d3] }
  | _ => none }
def pauliGroupRow : OpenClaim := { program := "ytechbhjdgfcgoaa", sum := "82d671f478630e95198e0a0c441947f3d01f2618af7ca893bd39dc4dd45bdfe1", func := "cubit/cubitlaw07.PauliGroup", spec := "pauliGroup", apart := false }
def PauliGroupSaid : Prop := pauliGroupRow.holds Try.pinned (OpenSpec.ofChange pauliGroupSpec)

/-- ITS FALSE NEIGHBOUR: 'it returns false'. Refute it at one input. -/
def pauliGroupWrong : ChangeSpec := { name := "pauliGroup", fn := fun _ => fun
  | [d1, d2, d3] => { results := [.lit (.bool false)], args := [d1, d2, d3] }
  | _ => none }
def PauliGroupWrongFalsely : Prop := pauliGroupRow.holds Try.pinned (OpenSpec.ofChange pauliGroupWrong)

/-- 'cubitlaw07.PauliProducts': WHATEVER THE INPUT: true; the input reads as it did. -/
def pauliProductsSpec : ChangeSpec := { name := "pauliProducts", fn := fun _ => fun
  | [d1, d2] => { results := [.lit (.bool true)], args := [d1, d2] }
  | _ => none }
def pauliProductsRow : OpenClaim := { program := "ytechbhjdgfcgoaa", sum := "82d671f478630e95198e0a0c441947f3d01f2618af7ca893bd39dc4dd45bdfe1", func := "cubit/cubitlaw07.PauliProducts", spec := "pauliProducts", inPlace := ["internal/abi.NoEscape"], apart := false }
def PauliProductsSaid : Prop := pauliProductsRow.holds Try.pinned (OpenSpec.ofChange pauliProductsSpec)

/-- ITS FALSE NEIGHBOUR: 'it returns false'. Refute it at one input. -/
def pauliProductsWrong : ChangeSpec := { name := "pauliProducts", fn := fun _ => fun
  | [d1, d2] => { results := [.lit (.bool false)], args := [d1, d2] }
  | _ => none }
def PauliProductsWrongFalsely : Prop := pauliProductsRow.holds Try.pinned (OpenSpec.ofChange pauliProductsWrong)

/- THE SECOND FORM. 'bulk': how many values and letters a reading holds, each counted each time it is reached (what is shared counts as often as it is met; a slice's spare places count too). A statement '..UptoSaid' is the law's where the arguments, and the package variables that the reading takes, are together of bulk at most 1048576: NARROWER than '..Said'. Prove '..Said' where nothing that the law and all that it calls make is longer than what came in: it says more and counts as full. Else prove '..UptoSaid'. A law counts once. -/
mutual
def uptoBulk {H : Type} : DataW H → Nat
  | .lit (.string bytes) => bytes.length + 1
  | .lit _ => 1
  | .nil => 1
  | .ptr d => uptoBulk d + 1
  | .slice elems spare => uptoBulkAll elems + uptoBulkAll spare + 1
  | .agg parts => uptoBulkAll parts + 1
  | .iface _ d => uptoBulk d + 1
  | .map entries => uptoBulkEntries entries + 1
  | .held _ => 1
def uptoBulkAll {H : Type} : List (DataW H) → Nat
  | [] => 0
  | d :: r => uptoBulk d + uptoBulkAll r
def uptoBulkEntries {H : Type} : List (Lit × DataW H) → Nat
  | [] => 0
  | x :: r => uptoBulkEntry x + uptoBulkEntries r
def uptoBulkEntry {H : Type} : Lit × DataW H → Nat
  | (.string bytes, d) => bytes.length + uptoBulk d + 1
  | (_, d) => uptoBulk d + 1
 end
def uptoSmall : (H : Type) → List (DataW H) → Bool := fun _ ds => decide (uptoBulkAll ds ≤ 1048576)
def OpenSpec.upto (s : _root_.Go.ChangeSpec) : _root_.Go.OpenSpec := { _root_.Go.OpenSpec.ofChange s with cond := some uptoSmall }

/-- 'cubitlaw07.PauliMakes', WHERE WHAT IT READS IS OF BULK AT MOST 1048576: true; the input reads as it did. -/
def pauliMakesUptoRow : OpenClaim := { program := "ytechbhjdgfcgoaa", sum := "82d671f478630e95198e0a0c441947f3d01f2618af7ca893bd39dc4dd45bdfe1", func := "cubit/cubitlaw07.PauliMakes", spec := "pauliMakes", apart := false, narrowed := true }
def PauliMakesUptoSaid : Prop := pauliMakesUptoRow.holds Try.pinned (OpenSpec.upto pauliMakesSpec)

/-- 'cubitlaw07.PauliGroup', WHERE WHAT IT READS IS OF BULK AT MOST 1048576: true; the input reads as it did. -/
def pauliGroupUptoRow : OpenClaim := { program := "ytechbhjdgfcgoaa", sum := "82d671f478630e95198e0a0c441947f3d01f2618af7ca893bd39dc4dd45bdfe1", func := "cubit/cubitlaw07.PauliGroup", spec := "pauliGroup", apart := false, narrowed := true }
def PauliGroupUptoSaid : Prop := pauliGroupUptoRow.holds Try.pinned (OpenSpec.upto pauliGroupSpec)

/-- 'cubitlaw07.PauliProducts', WHERE WHAT IT READS IS OF BULK AT MOST 1048576: true; the input reads as it did. -/
def pauliProductsUptoRow : OpenClaim := { program := "ytechbhjdgfcgoaa", sum := "82d671f478630e95198e0a0c441947f3d01f2618af7ca893bd39dc4dd45bdfe1", func := "cubit/cubitlaw07.PauliProducts", spec := "pauliProducts", inPlace := ["internal/abi.NoEscape"], apart := false, narrowed := true }
def PauliProductsUptoSaid : Prop := pauliProductsUptoRow.holds Try.pinned (OpenSpec.upto pauliProductsSpec)

end Rows
end Go.Proofs.Ytechbhjdgfcgoaa
