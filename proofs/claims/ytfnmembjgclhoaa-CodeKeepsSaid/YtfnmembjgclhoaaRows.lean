/-
  No cell of these rows narrows 'for every input' (looked for: loops, veiled, ifaces, maps, wideKeys, modest, calm, conditions, laid).
  DERIVED. THE GIVEN ROWS OF THIS SEAT. 6 by the template 'for every input the law returns true; each argument reads behind the call as it read before'; 0 by the template 'total and deterministic' (their statements: YtfnmembjgclhoaaTotals.lean).
  GIVEN WITH THE SEED: the statements are not yours to turn. If you find one false, say at which input.
  Laid BY PROGRAM, IN A SANDBOX (cutbox-rows.mjs): the forced cells as the released guide's own fill.sh prints them over the translation e52283c73f234711… (all of the seat's roots in one cut). By AI agents, Wed Nov 11 2026. No macro, syntax, notation, axiom, sorry.
-/
import Derived.Test.YtfnmembjgclhoaaChecked
import GoSem.Claim
import GoSem.ClaimJoined
import GoSem.ClaimMapViews
import Derived.JoinedTies
import Derived.KernelRfl
namespace Go.Proofs.Ytfnmembjgclhoaa
/- THE CELL 'sum', in the pinned program and in every row, IS THE sha256 OF THE DUMP (.gsa) THAT YtfnmembjgclhoaaProg.lean LOADS. Nothing in Lean hashes anything: it is a label: what it is worth is what the hold of that sum in a sandbox is worth. -/
noncomputable def Try.pinned : Pinned := { name := "ytfnmembjgclhoaa", sum := "e52283c73f234711a7fb1973d538df5ff41ec5f1369510ad6f2733d9fe685e03", checked := Try.checked }
namespace Rows
def none {H : Type} : Left H := { results := [], args := [] }

/-- 'cubitlaw23.CodeAsks': WHATEVER THE INPUT: true; the input reads as it did. -/
def codeAsksSpec : ChangeSpec := { name := "codeAsks", fn := fun _ => fun
  | [d1, d2] => { results := [.lit (.bool true)], args := [d1, d2] }
  | _ => none }
def codeAsksRow : OpenClaim := { program := "ytfnmembjgclhoaa", sum := "e52283c73f234711a7fb1973d538df5ff41ec5f1369510ad6f2733d9fe685e03", func := "cubit/cubitlaw23.CodeAsks", spec := "codeAsks", unfollowed := true, recurses := true, apart := false }
def CodeAsksSaid : Prop := codeAsksRow.holds Try.pinned (OpenSpec.ofChange codeAsksSpec)

/-- ITS FALSE NEIGHBOUR: 'it returns false'. Refute it at one input. -/
def codeAsksWrong : ChangeSpec := { name := "codeAsks", fn := fun _ => fun
  | [d1, d2] => { results := [.lit (.bool false)], args := [d1, d2] }
  | _ => none }
def CodeAsksWrongFalsely : Prop := codeAsksRow.holds Try.pinned (OpenSpec.ofChange codeAsksWrong)

/-- 'cubitlaw23.CodeDecodes': WHATEVER THE INPUT: true; the input reads as it did. -/
def codeDecodesSpec : ChangeSpec := { name := "codeDecodes", fn := fun _ => fun
  | [d1, d2] => { results := [.lit (.bool true)], args := [d1, d2] }
  | _ => none }
def codeDecodesRow : OpenClaim := { program := "ytfnmembjgclhoaa", sum := "e52283c73f234711a7fb1973d538df5ff41ec5f1369510ad6f2733d9fe685e03", func := "cubit/cubitlaw23.CodeDecodes", spec := "codeDecodes", unfollowed := true, recurses := true, apart := false }
def CodeDecodesSaid : Prop := codeDecodesRow.holds Try.pinned (OpenSpec.ofChange codeDecodesSpec)

/-- ITS FALSE NEIGHBOUR: 'it returns false'. Refute it at one input. -/
def codeDecodesWrong : ChangeSpec := { name := "codeDecodes", fn := fun _ => fun
  | [d1, d2] => { results := [.lit (.bool false)], args := [d1, d2] }
  | _ => none }
def CodeDecodesWrongFalsely : Prop := codeDecodesRow.holds Try.pinned (OpenSpec.ofChange codeDecodesWrong)

/-- 'cubitlaw23.CodeNamed': WHATEVER THE INPUT: true; the input reads as it did. -/
def codeNamedSpec : ChangeSpec := { name := "codeNamed", fn := fun _ => fun
  | [d] => { results := [.lit (.bool true)], args := [d] }
  | _ => none }
def codeNamedRow : OpenClaim := { program := "ytfnmembjgclhoaa", sum := "e52283c73f234711a7fb1973d538df5ff41ec5f1369510ad6f2733d9fe685e03", func := "cubit/cubitlaw23.CodeNamed", spec := "codeNamed", unfollowed := true, recurses := true, apart := false }
def CodeNamedSaid : Prop := codeNamedRow.holds Try.pinned (OpenSpec.ofChange codeNamedSpec)

/-- ITS FALSE NEIGHBOUR: 'it returns false'. Refute it at one input. -/
def codeNamedWrong : ChangeSpec := { name := "codeNamed", fn := fun _ => fun
  | [d] => { results := [.lit (.bool false)], args := [d] }
  | _ => none }
def CodeNamedWrongFalsely : Prop := codeNamedRow.holds Try.pinned (OpenSpec.ofChange codeNamedWrong)

/-- 'cubitlaw23.CodeKeeps': WHATEVER THE INPUT: true; the input reads as it did. -/
def codeKeepsSpec : ChangeSpec := { name := "codeKeeps", fn := fun _ => fun
  | [d1, d2] => { results := [.lit (.bool true)], args := [d1, d2] }
  | _ => none }
def codeKeepsRow : OpenClaim := { program := "ytfnmembjgclhoaa", sum := "e52283c73f234711a7fb1973d538df5ff41ec5f1369510ad6f2733d9fe685e03", func := "cubit/cubitlaw23.CodeKeeps", spec := "codeKeeps", unfollowed := true, recurses := true, apart := false }
def CodeKeepsSaid : Prop := codeKeepsRow.holds Try.pinned (OpenSpec.ofChange codeKeepsSpec)

/-- ITS FALSE NEIGHBOUR: 'it returns false'. Refute it at one input. -/
def codeKeepsWrong : ChangeSpec := { name := "codeKeeps", fn := fun _ => fun
  | [d1, d2] => { results := [.lit (.bool false)], args := [d1, d2] }
  | _ => none }
def CodeKeepsWrongFalsely : Prop := codeKeepsRow.holds Try.pinned (OpenSpec.ofChange codeKeepsWrong)

/-- 'cubitlaw23.CodeProducts': WHATEVER THE INPUT: true; the input reads as it did. -/
def codeProductsSpec : ChangeSpec := { name := "codeProducts", fn := fun _ => fun
  | [d] => { results := [.lit (.bool true)], args := [d] }
  | _ => none }
def codeProductsRow : OpenClaim := { program := "ytfnmembjgclhoaa", sum := "e52283c73f234711a7fb1973d538df5ff41ec5f1369510ad6f2733d9fe685e03", func := "cubit/cubitlaw23.CodeProducts", spec := "codeProducts", unfollowed := true, recurses := true, apart := false }
def CodeProductsSaid : Prop := codeProductsRow.holds Try.pinned (OpenSpec.ofChange codeProductsSpec)

/-- ITS FALSE NEIGHBOUR: 'it returns false'. Refute it at one input. -/
def codeProductsWrong : ChangeSpec := { name := "codeProducts", fn := fun _ => fun
  | [d] => { results := [.lit (.bool false)], args := [d] }
  | _ => none }
def CodeProductsWrongFalsely : Prop := codeProductsRow.holds Try.pinned (OpenSpec.ofChange codeProductsWrong)

/-- 'cubitlaw23.CodeCorrects': WHATEVER THE INPUT: true; the input reads as it did. -/
def codeCorrectsSpec : ChangeSpec := { name := "codeCorrects", fn := fun _ => fun
  | [d1, d2] => { results := [.lit (.bool true)], args := [d1, d2] }
  | _ => none }
def codeCorrectsRow : OpenClaim := { program := "ytfnmembjgclhoaa", sum := "e52283c73f234711a7fb1973d538df5ff41ec5f1369510ad6f2733d9fe685e03", func := "cubit/cubitlaw23.CodeCorrects", spec := "codeCorrects", unfollowed := true, recurses := true, apart := false }
def CodeCorrectsSaid : Prop := codeCorrectsRow.holds Try.pinned (OpenSpec.ofChange codeCorrectsSpec)

/-- ITS FALSE NEIGHBOUR: 'it returns false'. Refute it at one input. -/
def codeCorrectsWrong : ChangeSpec := { name := "codeCorrects", fn := fun _ => fun
  | [d1, d2] => { results := [.lit (.bool false)], args := [d1, d2] }
  | _ => none }
def CodeCorrectsWrongFalsely : Prop := codeCorrectsRow.holds Try.pinned (OpenSpec.ofChange codeCorrectsWrong)

/- THE SECOND FORM. 'bulk': how many values and letters a reading holds, each counted each time it is reached (what is shared counts as often as it is met; a slice's spare places count too). A statement '..UptoSaid' is the law's where the arguments, and the package variables that the reading takes, are together of bulk at most 1048576: NARROWER than '..Said'. Prove '..Said' where nothing that the law and all that it calls make is longer than what came in: it says more and counts as full. Else prove '..UptoSaid'. A law counts once. -/
mutual
def uptoBulk {H : Type} : DataW H → Nat
  | .lit (.string bytes) => bytes.length + 1
  | .lit _ => 1
  | .nil => 1
  | .ptr d => uptoBulk d + 1
  | .slice elems spare => uptoBulkAll elems + uptoBulkAll spare + 1
  | .agg parts => uptoBulkAll parts + 1
  | .iface _ d => uptoBulk d + 1
  | .map entries => uptoBulkEntries entries + 1
  | .held _ => 1
def uptoBulkAll {H : Type} : List (DataW H) → Nat
  | [] => 0
  | d :: r => uptoBulk d + uptoBulkAll r
def uptoBulkEntries {H : Type} : List (Lit × DataW H) → Nat
  | [] => 0
  | x :: r => uptoBulkEntry x + uptoBulkEntries r
def uptoBulkEntry {H : Type} : Lit × DataW H → Nat
  | (.string bytes, d) => bytes.length + uptoBulk d + 1
  | (_, d) => uptoBulk d + 1
 end
def uptoSmall : (H : Type) → List (DataW H) → Bool := fun _ ds => decide (uptoBulkAll ds ≤ 1048576)
def OpenSpec.upto (s : _root_.Go.ChangeSpec) : _root_.Go.OpenSpec := { _root_.Go.OpenSpec.ofChange s with cond := some uptoSmall }

/-- 'cubitlaw23.CodeAsks', WHERE WHAT IT READS IS OF BULK AT MOST 1048576: true; the input reads as it did. -/
def codeAsksUptoRow : OpenClaim := { program := "ytfnmembjgclhoaa", sum := "e52283c73f234711a7fb1973d538df5ff41ec5f1369510ad6f2733d9fe685e03", func := "cubit/cubitlaw23.CodeAsks", spec := "codeAsks", unfollowed := true, recurses := true, apart := false, narrowed := true }
def CodeAsksUptoSaid : Prop := codeAsksUptoRow.holds Try.pinned (OpenSpec.upto codeAsksSpec)

/-- 'cubitlaw23.CodeDecodes', WHERE WHAT IT READS IS OF BULK AT MOST 1048576: true; the input reads as it did. -/
def codeDecodesUptoRow : OpenClaim := { program := "ytfnmembjgclhoaa", sum := "e52283c73f234711a7fb1973d538df5ff41ec5f1369510ad6f2733d9fe685e03", func := "cubit/cubitlaw23.CodeDecodes", spec := "codeDecodes", unfollowed := true, recurses := true, apart := false, narrowed := true }
def CodeDecodesUptoSaid : Prop := codeDecodesUptoRow.holds Try.pinned (OpenSpec.upto codeDecodesSpec)

/-- 'cubitlaw23.CodeNamed', WHERE WHAT IT READS IS OF BULK AT MOST 1048576: true; the input reads as it did. -/
def codeNamedUptoRow : OpenClaim := { program := "ytfnmembjgclhoaa", sum := "e52283c73f234711a7fb1973d538df5ff41ec5f1369510ad6f2733d9fe685e03", func := "cubit/cubitlaw23.CodeNamed", spec := "codeNamed", unfollowed := true, recurses := true, apart := false, narrowed := true }
def CodeNamedUptoSaid : Prop := codeNamedUptoRow.holds Try.pinned (OpenSpec.upto codeNamedSpec)

/-- 'cubitlaw23.CodeKeeps', WHERE WHAT IT READS IS OF BULK AT MOST 1048576: true; the input reads as it did. -/
def codeKeepsUptoRow : OpenClaim := { program := "ytfnmembjgclhoaa", sum := "e52283c73f234711a7fb1973d538df5ff41ec5f1369510ad6f2733d9fe685e03", func := "cubit/cubitlaw23.CodeKeeps", spec := "codeKeeps", unfollowed := true, recurses := true, apart := false, narrowed := true }
def CodeKeepsUptoSaid : Prop := codeKeepsUptoRow.holds Try.pinned (OpenSpec.upto codeKeepsSpec)

/-- 'cubitlaw23.CodeProducts', WHERE WHAT IT READS IS OF BULK AT MOST 1048576: true; the input reads as it did. -/
def codeProductsUptoRow : OpenClaim := { program := "ytfnmembjgclhoaa", sum := "e52283c73f234711a7fb1973d538df5ff41ec5f1369510ad6f2733d9fe685e03", func := "cubit/cubitlaw23.CodeProducts", spec := "codeProducts", unfollowed := true, recurses := true, apart := false, narrowed := true }
def CodeProductsUptoSaid : Prop := codeProductsUptoRow.holds Try.pinned (OpenSpec.upto codeProductsSpec)

/-- 'cubitlaw23.CodeCorrects', WHERE WHAT IT READS IS OF BULK AT MOST 1048576: true; the input reads as it did. -/
def codeCorrectsUptoRow : OpenClaim := { program := "ytfnmembjgclhoaa", sum := "e52283c73f234711a7fb1973d538df5ff41ec5f1369510ad6f2733d9fe685e03", func := "cubit/cubitlaw23.CodeCorrects", spec := "codeCorrects", unfollowed := true, recurses := true, apart := false, narrowed := true }
def CodeCorrectsUptoSaid : Prop := codeCorrectsUptoRow.holds Try.pinned (OpenSpec.upto codeCorrectsSpec)

end Rows
end Go.Proofs.Ytfnmembjgclhoaa
