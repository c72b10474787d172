/- Printed for this claim by a program of the session: contracts of Go functions: a call answers what its Lean function tells, wherever that tells something. -/
import Derived.Test.YtkonklmgkkbnmaaRows
import Derived.Test.YtkonklmgkkbnmaaPAx14
import Derived.Test.YtkonklmgkkbnmaaPureLexBack
import Derived.WalkKit
import Derived.ProofKit
import Derived.OpenShut
import Derived.ShutString
import Derived.ChangeOld
import Derived.Below
import Derived.SizedLaws
import Derived.Deep.CondSized
import Derived.Test.YtkonklmgkkbnmaaWSized
import Derived.Test.YtkonklmgkkbnmaaGOpen
namespace Go.Proofs.Ytkonklmgkkbnmaa.lexBack
open Go.ChangeShapes Go.WideShapes Go.ChangeAt Go.RowKit
open Go.ChangeMaps (open_string shut_string)
set_option linter.unusedVariables false
set_option linter.unusedSimpArgs false
theorem own : ownKnob Try.prog.godebug = none := by kernel_rfl
theorem laidOut : laidOutB Try.prog = true := by kernel_rfl
def IsRow (k : IntKind) (w : World) (a : Option Addr) (len cap : Nat) (zs : List Int) : Prop :=
  (a = none ∧ len = 0 ∧ cap = 0 ∧ zs = []) ∨
  ∃ x, a = some x ∧ len ≤ cap ∧ cap ≤ maxLen ∧ zs.length = cap ∧ (∀ i, i < zs.length → w.cell? (x.add i) = some (.int k (zs.getD i 0))) ∧ ∀ n ∈ zs, (Lit.int k n).wf = true
set_option maxRecDepth 100000 in
theorem lifted (os : Os) (started : os.Started) (H : Type) (enc : TypeId × Value → H) (F : Stop.Interp) :
    ReturnsInHanded {} Try.checked os 7 .any ((Rows.OpenSpec.upto Rows.lexBackSpec).pre6 enc Try.prog Try.f7 Rows.lexBackUptoRow.domain false) (((Rows.OpenSpec.upto Rows.lexBackSpec).at F).post enc Try.prog Try.f7 false true false false) := by
  refine returnsInHanded_of_cond_sized (C := Try.checked) (s := Rows.OpenSpec.upto Rows.lexBackSpec) (k := Rows.uptoSmall) rfl own started (by kernel_rfl) Try.func7
    (OpenSpec.witness (enc := enc) (C := Try.checked) (s := Rows.OpenSpec.upto Rows.lexBackSpec) (k := Rows.uptoSmall) rfl false ⟨#[], #[.string ByteArray.empty, .slice none 0 0], []⟩ 8 (by kernel_rfl) (by kernel_rfl) (by kernel_rfl) (x := ([.lit (.string []), .nil], [], [])) (by kernel_rfl) rfl (by kernel_rfl)) ?_
  intro W base args ds gs before hval0 hW hcnd hkk hsz0 _
  have hsz : (DataW.weightsEach Try.prog (Try.f7.params.toList ++ Rows.lexBackSpec.plain.varTypes Try.prog) (ds ++ gs)).all (· ≤ reachBytes) = true := hsz0
  have hval : ∀ (j : Nat) t v, Try.f7.params[j]? = some t → args[j]? = some v → Value.okWide Try.prog W .any base t v := hval0
  have hW' := hW
  obtain ⟨p, q, hA0, hV, rfl, hfz, hnd⟩ := hW
  have hA : DataW.TrodAll enc Try.prog W 0 (fun _ => true) true Try.f7.params.toList args.toList ds p := hA0
  rw [Try.params7] at hA hval hsz
  obtain ⟨v0, vs0, d0, ds0, p0, q0, hargs, rfl, rfl, h0, r0⟩ := trodAll_cons hA
  obtain ⟨v1, vs1, d1, ds1, p1, q1, rfl, rfl, rfl, h1, r1⟩ := trodAll_cons r0
  obtain ⟨rfl, rfl, rfl⟩ := trodAll_nil r1
  obtain rfl : args = #[v0, v1] := by cases args; simp_all
  obtain ⟨rfl, rfl⟩ := trodVars_none hV
  obtain ⟨a0, rfl, rfl, rfl, y0⟩ := open_string Try.underlying9 (hval 0 9 v0 rfl rfl) h0
  have w0 : a0.size ≤ 140737488351232 := by
    have z := sized_string hsz (j := 0) (t := 9) rfl rfl
    rw [Array.length_toList] at z
    exact z
  have k1 := h1
  have lt1 : ∀ x ∈ p1, x.block < W.heap.size := by obtain ⟨m, hm⟩ := k1; exact DataW.trod_lt m _ _ _ hm
  obtain ⟨A1, c1, l1, rfl, hr1, hc1, y1, w1, u1⟩ := Go.Proofs.Ytkonklmgkkbnmaa.O.opened_slice (Z := 32) Try.underlying23 (by kernel_rfl) (by kernel_rfl) (Go.Proofs.Ytkonklmgkkbnmaa.O.opens_struct3 (fun x : Go.Proofs.Ytkonklmgkkbnmaa.PA.S31 => (x.f0, x.f1, x.f2)) (fun p => ⟨p.1, p.2.1, p.2.2⟩) (fun _ => rfl) Try.underlying31 rfl (by kernel_rfl) (by kernel_rfl) (by kernel_rfl) (Go.Proofs.Ytkonklmgkkbnmaa.O.opens_int Try.underlying3) (Go.Proofs.Ytkonklmgkkbnmaa.O.opens_string Try.underlying9) (Go.Proofs.Ytkonklmgkkbnmaa.O.opens_int Try.underlying3)) (hval 1 23 v1 rfl rfl) h1 (Go.Proofs.Ytkonklmgkkbnmaa.O.light_of hsz (j := 1) (t := 23) rfl rfl)
  have hup : (a0.size + 1) + ((l1.map fun v0 => ((1 + ((v0.f1.size + 1) + 1)) + 1)).sum + 1) ≤ 1048576 := by
    have hb : Rows.uptoBulkAll _ ≤ 1048576 := of_decide_eq_true hkk
    simp only [List.append_nil, List.cons_append, List.nil_append, Rows.uptoBulkAll, Rows.uptoBulk] at hb
    have u1' : ((l1.map fun v0 => ((1 + ((v0.f1.size + 1) + 1)) + 1)).sum + 1) ≤ Rows.uptoBulk d1 := u1
    have hs0 : a0.data.toList.length = a0.size := by rw [Array.length_toList]; rfl
    omega
  clear hA0 hval0 hsz0 hsz
  refine (PA.cubitlaw09_LexBack.walk Pure.LexBack a0 A1 c1 l1 W w0 hr1 hc1 y1 w1 hup).mono fun e W' ⟨he, bel⟩ => ?_
  subst he
  exact ⟨_, rfl, _, _, _, [], _, [], hW', trodAll_mk1 (shut_bool Try.underlying4 _), (trodAll_cons_mk (shut_string Try.underlying9 y0) (trodAll_cons_mk (Below.trod laidOut (by kernel_rfl) (of_decide_eq_true (by kernel_rfl)) k1 bel lt1) trodAll_mk0)), rfl, bel.frame _, fun h => by cases h⟩
theorem over : Rows.lexBackUptoRow.holds Try.pinned (Rows.OpenSpec.upto Rows.lexBackSpec) :=
  OpenClaim.holds_of_cond 7 Try.f7 rfl rfl rfl rfl rfl rfl rfl ⟨rfl, rfl, rfl, rfl, rfl⟩ rfl rfl rfl rfl rfl (by kernel_rfl) Try.func7 (by kernel_rfl)
    (of_decide_eq_true (by kernel_rfl)) (by unfold Func.isWrapper; first | (rw [if_pos (by decide +kernel)]; kernel_rfl) | (rw [if_neg (by decide +kernel)]; exact ⟨rfl, rfl⟩))
    (fun os started H enc _ F => lifted os started H enc F)
theorem proved : Rows.LexBackUptoSaid := over
#print axioms proved
end Go.Proofs.Ytkonklmgkkbnmaa.lexBack
namespace Go.Proofs.Ytkonklmgkkbnmaa
/-- The row, under a short name, for the claim. -/
theorem lexBack_holds : Rows.LexBackUptoSaid := lexBack.proved
end Go.Proofs.Ytkonklmgkkbnmaa
