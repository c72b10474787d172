/- A code handed in: opened, with the room of its rows. -/
import Derived.Test.YtfnmembjgclhoaaCodAO
namespace Go.Proofs.Ytfnmembjgclhoaa.CD
open Go Go.RowKit Go.ChangeShapes Go.WideShapes
set_option linter.unusedVariables false
set_option linter.unusedSimpArgs false
variable {H : Type} {enc : TypeId × Value → H} {w : World} {base : Nat} {spare : Nat → Bool} {held : Bool}
theorem row_more {fuel : Nat} {cs : List Value} {x : DataW H × List MemPlace} (h : DataW.trod enc Try.prog w base spare held fuel 22 cs = some x) (hl : ∀ n ∈ x.1.weights Try.prog 22, n ≤ 140737488351232) {a : Option Addr} {m c : Nat} (hcs : cs = [.slice a m c]) : (a = none → c = 0) ∧ m ≤ 4398046510976 := by
  rcases DataW.trod_slice Try.underlying22 h with ⟨e, rfl⟩ | ⟨a', len, cap, elems, rest, n, _, e, rfl, hb, hlc, hm, hlen, hel, _, _⟩
  · rw [hcs] at e
    injection e with e _
    injection e with e1 e2 e3
    subst e1 e2 e3
    exact ⟨fun _ => rfl, by omega⟩
  · have hw : (elems.length + rest.length) * 32 ≤ 140737488351232 := by
      have h1 : ∀ n ∈ DataW.weights Try.prog 22 (DataW.slice (elems.map (·.1)) (rest.map (·.1))), n ≤ 140737488351232 := hl
      rw [DataW.weights, Try.underlying22] at h1
      have h2 := h1 _ (List.mem_cons_self)
      rw [info27b] at h2
      simpa using h2
    rw [hcs] at e
    injection e with e _
    injection e with e1 e2 e3
    subst e1 e2 e3
    exact ⟨fun h => (by cases h), by omega⟩
/-- A code among the arguments, with the room of its rows. -/
theorem open_code2 {r : Reach} {b0 : Nat} {v : Value} {y : DataW H} {p : List MemPlace} (hv : Value.okWide Try.prog w r b0 24 v) (h : DataW.Trod enc Try.prog w base spare held 24 v y p) (hl : ∀ n ∈ y.weights Try.prog 24, n ≤ 140737488351232) : ∃ c : Cod, v = (Value.agg #[.int .i64 c.n, .slice c.ga c.gs.length c.gc, .slice c.xa c.xs.length c.xc, .slice c.za c.zs.length c.zc]) ∧ CodAt w c ∧ (c.ga = none → c.gc = 0) ∧ (c.xa = none → c.xc = 0) ∧ (c.za = none → c.zc = 0) ∧ c.gs.length ≤ 4398046510976 ∧ c.xs.length ≤ 4398046510976 ∧ c.zs.length ≤ 4398046510976 := by
  obtain ⟨cs, rfl, _⟩ := okWide_struct Try.underlying24 hv
  obtain ⟨fuel, hf⟩ := h
  obtain ⟨c, hc, hat⟩ := trod_code hf hl
  simp only [Value.cells] at hc hf
  rw [hc] at hf
  obtain ⟨y0, y1, y2, y3, n, hy, hlen, g0, g1, g2, g3⟩ := Joins.trod_struct4 Try.underlying24 hf
  injection hy with hy1 hy2
  subst hy1
  have hw := light_agg Try.underlying24 hl
  simp only [Array.toList, List.map_cons, List.map_nil, DataW.weightsEach, List.append_nil, List.mem_append] at hw
  simp only [c3, c22] at g0 g1 g2 g3
  have m1 := row_more g1 (fun n hn => hw n (.inr (.inl hn))) (a := c.ga) (m := c.gs.length) (c := c.gc) rfl
  have m2 := row_more g2 (fun n hn => hw n (.inr (.inr (.inl hn)))) (a := c.xa) (m := c.xs.length) (c := c.xc) rfl
  have m3 := row_more g3 (fun n hn => hw n (.inr (.inr (.inr hn)))) (a := c.za) (m := c.zs.length) (c := c.zc) rfl
  refine ⟨c, ?_, hat, m1.1, m2.1, m3.1, m1.2, m2.2, m3.2⟩
  rw [← Array.toArray_toList (xs := cs), hc]
end Go.Proofs.Ytfnmembjgclhoaa.CD
