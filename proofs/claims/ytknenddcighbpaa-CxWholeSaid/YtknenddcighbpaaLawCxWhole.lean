/- CxWhole: the row: six 32-bit numbers handed over by value. -/
import Derived.Test.YtknenddcighbpaaRows
import Derived.Test.YtknenddcighbpaaCxC
import Derived.WalkKit
import Derived.ProofKit
import Derived.OpenShut
import Derived.ShutString
import Derived.ChangeOld
import Derived.Below
import Derived.SizedLaws
namespace Go.Proofs.Ytknenddcighbpaa.cxWhole
open Go.ChangeShapes Go.WideShapes Go.ChangeAt Go.RowKit
set_option linter.unusedVariables false
set_option linter.unusedSimpArgs false
section
variable {H : Type} {enc : TypeId × Value → H} {w : World} {base : Nat} {spare : Nat → Bool} {held : Bool}
theorem list6 {α : Type} {l : List α} (h : l.length = 6) : ∃ a b c d e f, l = [a, b, c, d, e, f] := by
  match l, h with
  | [a, b, c, d, e, f], _ => exact ⟨a, b, c, d, e, f, rfl⟩
theorem ok6 {r : Reach} {b0 : Nat} {v : Value} (h : Value.okWide Try.prog w r b0 22 v) : ∃ xs : Array Value, v = .agg xs ∧ xs.toList.length = 6 := by
  simp only [Value.okWide, Try.underlying22] at h
  obtain ⟨cs, h1, h2, _⟩ := h
  have hc : Try.prog.cellsOf 22 = 6 := by kernel_rfl
  rw [hc] at h2
  exact ⟨cs, h1, by simpa using h2⟩
theorem open6 {r : Reach} {b0 : Nat} {v : Value} {d : DataW H} {p : List MemPlace} (hv : Value.okWide Try.prog w r b0 22 v) (h : DataW.Trod enc Try.prog w base spare held 22 v d p) :
    ∃ n0 n1 n2 n3 n4 n5 : Int, v = .agg #[.int .i32 n0, .int .i32 n1, .int .i32 n2, .int .i32 n3, .int .i32 n4, .int .i32 n5] ∧ d = .agg [.lit (.int .i32 n0), .lit (.int .i32 n1), .lit (.int .i32 n2), .lit (.int .i32 n3), .lit (.int .i32 n4), .lit (.int .i32 n5)] ∧ p = [] ∧ (Lit.int .i32 n0).wf = true ∧ (Lit.int .i32 n1).wf = true ∧ (Lit.int .i32 n2).wf = true ∧ (Lit.int .i32 n3).wf = true ∧ (Lit.int .i32 n4).wf = true ∧ (Lit.int .i32 n5).wf = true := by
  obtain ⟨xs, rfl, hx⟩ := ok6 hv
  obtain ⟨c0, c1, c2, c3, c4, c5, hl⟩ := list6 hx
  obtain rfl : xs = #[c0, c1, c2, c3, c4, c5] := by cases xs; simp_all
  obtain ⟨fuel, hf⟩ := h
  obtain ⟨ys, m, rfl, he, _, hy, hi⟩ := DataW.trod_array Try.underlying22 hf
  obtain ⟨y0, y1, y2, y3, y4, y5, rfl⟩ := list6 hy
  have hc : Try.prog.cellsOf 21 = 1 := by kernel_rfl
  rw [hc] at hi
  have i0 := hi 0 (by decide)
  simp only [Value.cells, Nat.mul_one, List.drop_succ_cons, List.drop_zero, List.take_succ_cons, List.take_zero, List.getElem?_cons_succ, List.getElem?_cons_zero] at i0
  obtain ⟨n0, e0, rfl, w0⟩ := DataW.trod_int Try.underlying21 i0
  obtain rfl : c0 = .int .i32 n0 := by simpa using e0
  have i1 := hi 1 (by decide)
  simp only [Value.cells, Nat.mul_one, List.drop_succ_cons, List.drop_zero, List.take_succ_cons, List.take_zero, List.getElem?_cons_succ, List.getElem?_cons_zero] at i1
  obtain ⟨n1, e1, rfl, w1⟩ := DataW.trod_int Try.underlying21 i1
  obtain rfl : c1 = .int .i32 n1 := by simpa using e1
  have i2 := hi 2 (by decide)
  simp only [Value.cells, Nat.mul_one, List.drop_succ_cons, List.drop_zero, List.take_succ_cons, List.take_zero, List.getElem?_cons_succ, List.getElem?_cons_zero] at i2
  obtain ⟨n2, e2, rfl, w2⟩ := DataW.trod_int Try.underlying21 i2
  obtain rfl : c2 = .int .i32 n2 := by simpa using e2
  have i3 := hi 3 (by decide)
  simp only [Value.cells, Nat.mul_one, List.drop_succ_cons, List.drop_zero, List.take_succ_cons, List.take_zero, List.getElem?_cons_succ, List.getElem?_cons_zero] at i3
  obtain ⟨n3, e3, rfl, w3⟩ := DataW.trod_int Try.underlying21 i3
  obtain rfl : c3 = .int .i32 n3 := by simpa using e3
  have i4 := hi 4 (by decide)
  simp only [Value.cells, Nat.mul_one, List.drop_succ_cons, List.drop_zero, List.take_succ_cons, List.take_zero, List.getElem?_cons_succ, List.getElem?_cons_zero] at i4
  obtain ⟨n4, e4, rfl, w4⟩ := DataW.trod_int Try.underlying21 i4
  obtain rfl : c4 = .int .i32 n4 := by simpa using e4
  have i5 := hi 5 (by decide)
  simp only [Value.cells, Nat.mul_one, List.drop_succ_cons, List.drop_zero, List.take_succ_cons, List.take_zero, List.getElem?_cons_succ, List.getElem?_cons_zero] at i5
  obtain ⟨n5, e5, rfl, w5⟩ := DataW.trod_int Try.underlying21 i5
  obtain rfl : c5 = .int .i32 n5 := by simpa using e5
  simp only [Prod.mk.injEq] at he
  exact ⟨n0, n1, n2, n3, n4, n5, rfl, by rw [he.1]; rfl, by rw [he.2]; rfl, w0, w1, w2, w3, w4, w5⟩
theorem shut6 {n0 n1 n2 n3 n4 n5 : Int} (w0 : (Lit.int .i32 n0).wf = true) (w1 : (Lit.int .i32 n1).wf = true) (w2 : (Lit.int .i32 n2).wf = true) (w3 : (Lit.int .i32 n3).wf = true) (w4 : (Lit.int .i32 n4).wf = true) (w5 : (Lit.int .i32 n5).wf = true) : DataW.Trod enc Try.prog w base spare held 22 (.agg #[.int .i32 n0, .int .i32 n1, .int .i32 n2, .int .i32 n3, .int .i32 n4, .int .i32 n5]) (.agg [.lit (.int .i32 n0), .lit (.int .i32 n1), .lit (.int .i32 n2), .lit (.int .i32 n3), .lit (.int .i32 n4), .lit (.int .i32 n5)]) [] := by
  refine ⟨2, ?_⟩
  have hc : Try.prog.cellsOf 22 = 6 := by kernel_rfl
  have hc1 : Try.prog.cellsOf 21 = 1 := by kernel_rfl
  simp [DataW.trod, Value.cells, Try.underlying22, Try.underlying21, hc, hc1, List.range, List.range.loop, w0, w1, w2, w3, w4, w5]
end
theorem own : ownKnob Try.prog.godebug = none := by kernel_rfl
set_option maxRecDepth 100000 in
theorem lifted (os : Os) (started : os.Started) (H : Type) (enc : TypeId × Value → H) :
    ReturnsInHanded {} Try.checked os 3 .any (Rows.cxWholeSpec.pre6 enc Try.prog Try.f3 Rows.cxWholeRow.domain false) (Rows.cxWholeSpec.post enc Try.prog Try.f3 false true false false) := by
  refine returnsInHanded_of_change_sized (C := Try.checked) own started (by kernel_rfl) Try.func3
    (ChangeSpec.witness6 (enc := enc) (C := Try.checked) false ⟨#[], #[.agg #[.int .i32 0, .int .i32 0, .int .i32 0, .int .i32 0, .int .i32 0, .int .i32 0]], []⟩ 8 (by kernel_rfl) (by kernel_rfl) (by kernel_rfl) (by kernel_rfl)) ?_
  intro W base args ds gs before hval0 hW hcnd hsz0 _
  have hval : ∀ (j : Nat) t v, Try.f3.params[j]? = some t → args[j]? = some v → Value.okWide Try.prog W .any base t v := hval0
  have hW' := hW
  obtain ⟨p, q, hA0, hV, rfl, hfz, hnd⟩ := hW
  have hA : DataW.TrodAll enc Try.prog W 0 (fun _ => true) true Try.f3.params.toList args.toList ds p := hA0
  rw [Try.params3] at hA hval
  obtain ⟨v0, vs0, d0, ds0, p0, q0, hargs, rfl, rfl, h0, r0⟩ := trodAll_cons hA
  obtain ⟨rfl, rfl, rfl⟩ := trodAll_nil r0
  obtain rfl : args = #[v0] := by cases args; simp_all
  obtain ⟨rfl, rfl⟩ := trodVars_none hV
  obtain ⟨n0, n1, n2, n3, n4, n5, rfl, rfl, rfl, w0, w1, w2, w3, w4, w5⟩ := open6 (hval 0 22 v0 rfl rfl) h0
  clear hA0 hval0 hsz0
  refine (CX.walk n0 n1 n2 n3 n4 n5 W).mono fun e W' ⟨he, bel⟩ => ?_
  subst he
  exact ⟨_, rfl, _, _, _, [], _, [], hW', trodAll_mk1 (shut_bool Try.underlying4 _), (trodAll_cons_mk (shut6 w0 w1 w2 w3 w4 w5) trodAll_mk0), rfl, bel.frame _, fun h => by cases h⟩
theorem over : Rows.cxWholeRow.holds Try.pinned (OpenSpec.ofChange Rows.cxWholeSpec) :=
  OpenClaim.holds_of_wide 3 Try.f3 rfl rfl rfl rfl rfl rfl rfl ⟨rfl, rfl, rfl, rfl, rfl⟩ rfl rfl rfl rfl rfl (by kernel_rfl) Try.func3 (by kernel_rfl)
    (of_decide_eq_true (by kernel_rfl)) (by unfold Func.isWrapper; first | (rw [if_pos (by decide +kernel)]; kernel_rfl) | (rw [if_neg (by decide +kernel)]; exact ⟨rfl, rfl⟩))
    (fun os started H enc _ => lifted os started H enc)
theorem proved : Rows.CxWholeSaid := over
#print axioms proved
end Go.Proofs.Ytknenddcighbpaa.cxWhole
namespace Go.Proofs.Ytknenddcighbpaa
/-- The row, under a short name, for the claim. -/
theorem cxWhole_holds : Rows.CxWholeSaid := cxWhole.proved
end Go.Proofs.Ytknenddcighbpaa
