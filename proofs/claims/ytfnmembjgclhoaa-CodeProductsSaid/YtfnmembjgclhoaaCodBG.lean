/- A job handed in: opened. -/
import Derived.Test.YtfnmembjgclhoaaCodAO
namespace Go.Proofs.Ytfnmembjgclhoaa.CD
open Go Go.RowKit Go.ChangeShapes Go.WideShapes
set_option linter.unusedVariables false
set_option linter.unusedSimpArgs false
variable {H : Type} {enc : TypeId × Value → H} {w : World} {base : Nat} {spare : Nat → Bool} {held : Bool}
theorem c58 : Try.prog.cellsOf 58 = 13 := by kernel_rfl
theorem thirteen {cs : List Value} {a b c d e f g h i j k l m : Value} (hl : cs.length = 13) (h0 : (cs.drop 0).take 4 = [a, b, c, d]) (h1 : (cs.drop 4).take 4 = [e, f, g, h]) (h2 : (cs.drop 8).take 4 = [i, j, k, l]) (h3 : (cs.drop 12).take 1 = [m]) : cs = [a, b, c, d, e, f, g, h, i, j, k, l, m] := by
  match cs, hl with
  | [x0, x1, x2, x3, x4, x5, x6, x7, x8, x9, x10, x11, x12], _ =>
    simp at h0 h1 h2 h3
    simp [h0, h1, h2, h3]
/-- A job among the arguments. -/
theorem open_job {r : Reach} {b0 : Nat} {v : Value} {y : DataW H} {p : List MemPlace} (hv : Value.okWide Try.prog w r b0 58 v) (h : DataW.Trod enc Try.prog w base spare held 58 v y p) (hl : ∀ n ∈ y.weights Try.prog 58, n ≤ 140737488351232) :
    ∃ (c : Cod) (q s : Pau) (k : Nat), v = (Value.agg #[.int .i64 c.n, .slice c.ga c.gs.length c.gc, .slice c.xa c.xs.length c.xc, .slice c.za c.zs.length c.zc, .int .i64 q.n, .int .u64 q.x, .int .u64 q.z, .int .i64 q.ph, .int .i64 s.n, .int .u64 s.x, .int .u64 s.z, .int .i64 s.ph, .int .u64 k]) ∧ CodAt w c ∧ WF q ∧ WF s ∧ U k := by
  obtain ⟨cs, rfl, _⟩ := okWide_struct Try.underlying58 hv
  obtain ⟨fuel, hf⟩ := h
  obtain ⟨y0, y1, y2, y3, n, hy, hlen, g0, g1, g2, g3⟩ := Joins.trod_struct4 Try.underlying58 hf
  injection hy with hy1 hy2
  subst hy1
  have hw := light_agg Try.underlying58 hl
  simp only [Array.toList, List.map_cons, List.map_nil, DataW.weightsEach, List.append_nil, List.mem_append] at hw
  rw [c58] at hlen
  simp only [c24, c27, c25] at g0 g1 g2 g3
  obtain ⟨c, e0, hc⟩ := trod_code g0 (fun n hn => hw n (.inl hn))
  obtain ⟨q, e1, hq⟩ := trod_pau g1
  obtain ⟨s, e2, hs⟩ := trod_pau g2
  obtain ⟨a, e3, -, w3⟩ := DataW.trod_int Try.underlying25 g3
  have q1 : 0 ≤ a ∧ a < 2 ^ 64 := by simp [Lit.wf, IntKind.min, IntKind.max, IntKind.signed, IntKind.bits] at w3; omega
  obtain ⟨k, rfl⟩ : ∃ k : Nat, a = (k : Int) := ⟨a.toNat, by omega⟩
  refine ⟨c, q, s, k, ?_, hc, hq, hs, by unfold U; omega⟩
  simp only [Value.cells] at hlen e0 e1 e2 e3
  rw [← Array.toArray_toList (xs := cs), thirteen hlen e0 e1 e2 e3]
end Go.Proofs.Ytfnmembjgclhoaa.CD
