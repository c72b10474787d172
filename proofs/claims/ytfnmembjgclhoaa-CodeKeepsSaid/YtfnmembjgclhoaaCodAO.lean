/- A code, a string handed in: opened. -/
import Derived.Test.YtfnmembjgclhoaaCodM
import Derived.SizedLaws
import Derived.ChangeSlices
import Derived.ChangeArms
import Derived.DataElems
import Derived.Lib.SmallJoins
namespace Go.Proofs.Ytfnmembjgclhoaa.CD
open Go Go.RowKit Go.ChangeShapes Go.WideShapes
set_option linter.unusedVariables false
set_option linter.unusedSimpArgs false
variable {H : Type} {enc : TypeId × Value → H} {w : World} {base : Nat} {spare : Nat → Bool} {held : Bool}
theorem c3 : Try.prog.cellsOf 3 = 1 := by kernel_rfl
theorem c25 : Try.prog.cellsOf 25 = 1 := by kernel_rfl
theorem c27 : Try.prog.cellsOf 27 = 4 := by kernel_rfl
theorem c22 : Try.prog.cellsOf 22 = 1 := by kernel_rfl
theorem c24 : Try.prog.cellsOf 24 = 4 := by kernel_rfl
theorem four_of {cs : List Value} {a b c d : Value} (hl : cs.length = 4) (h0 : (cs.drop 0).take 1 = [a]) (h1 : (cs.drop 1).take 1 = [b]) (h2 : (cs.drop 2).take 1 = [c]) (h3 : (cs.drop 3).take 1 = [d]) : cs = [a, b, c, d] := by
  match cs, hl with
  | [x, y, z, t], _ => simp at h0 h1 h2 h3; simp [h0, h1, h2, h3]
theorem trod_pau {fuel : Nat} {cs : List Value} {x : DataW H × List MemPlace} (h : DataW.trod enc Try.prog w base spare held fuel 27 cs = some x) :
    ∃ p : Pau, cs = [.int .i64 p.n, .int .u64 p.x, .int .u64 p.z, .int .i64 p.ph] ∧ WF p := by
  obtain ⟨y0, y1, y2, y3, n, rfl, hlen, g0, g1, g2, g3⟩ := Joins.trod_struct4 Try.underlying27 h
  rw [c27] at hlen
  simp only [c3, c25] at g0 g1 g2 g3
  obtain ⟨a, e0, -, w0⟩ := DataW.trod_int Try.underlying3 g0
  obtain ⟨b, e1, -, w1⟩ := DataW.trod_int Try.underlying25 g1
  obtain ⟨c, e2, -, w2⟩ := DataW.trod_int Try.underlying25 g2
  obtain ⟨d, e3, -, w3⟩ := DataW.trod_int Try.underlying3 g3
  have hcs := four_of hlen e0 e1 e2 e3
  have q0 : I64 a := by simp [Lit.wf, IntKind.min, IntKind.max, IntKind.signed, IntKind.bits] at w0; unfold I64; omega
  have q1 : 0 ≤ b ∧ b < 2 ^ 64 := by simp [Lit.wf, IntKind.min, IntKind.max, IntKind.signed, IntKind.bits] at w1; omega
  have q2 : 0 ≤ c ∧ c < 2 ^ 64 := by simp [Lit.wf, IntKind.min, IntKind.max, IntKind.signed, IntKind.bits] at w2; omega
  have q3 : I64 d := by simp [Lit.wf, IntKind.min, IntKind.max, IntKind.signed, IntKind.bits] at w3; unfold I64; omega
  obtain ⟨b, rfl⟩ : ∃ k : Nat, b = (k : Int) := ⟨b.toNat, by omega⟩
  obtain ⟨c, rfl⟩ : ∃ k : Nat, c = (k : Int) := ⟨c.toNat, by omega⟩
  exact ⟨⟨a, b, c, d⟩, hcs, by unfold U; simp only; omega, by unfold U; simp only; omega, q0, q3⟩

theorem info27b : Try.prog.bytesOf 27 = 32 := by kernel_rfl
theorem list_of {α : Type} {n : Nat} {Q : Nat → α → Prop} (h : ∀ i, i < n → ∃ v, Q i v) : ∃ l : List α, l.length = n ∧ ∀ (i : Nat) (h : i < l.length), Q i l[i] := by
  induction n with
  | zero => exact ⟨[], rfl, fun i hi => absurd hi (Nat.not_lt_zero _)⟩
  | succ n ih =>
    obtain ⟨l, hl, hq⟩ := ih (fun i hi => h i (by omega))
    obtain ⟨v, hv⟩ := h n (by omega)
    refine ⟨l ++ [v], by simp [hl], fun i hi => ?_⟩
    rw [List.getElem_append]
    split
    · exact hq i _
    · have : i = n := by simp [hl] at hi; omega
      subst this
      simpa using hv
theorem cells_get {b : Nat} {a : Addr} {n : Nat} {cs : List Value} (h : w.cells? b a n = some cs) : ∀ i u, cs[i]? = some u → w.cell? (a.add i) = some u := by
  unfold World.cells? at h
  split at h
  · have hl := mapM_some_length h
    rw [List.length_range] at hl
    intro i u hu
    have hi : i < n := by rw [← hl]; exact (List.getElem?_eq_some_iff.1 hu).1
    have := mapM_some_get h i i (by rw [List.getElem?_range hi])
    rw [this, hu]
  · cases h
theorem cell_spot {a : Addr} {v : Value} (h : w.cell? a = some v) : a.spot = none := by
  unfold World.cell? at h
  split at h
  · split at h
    · cases h
    · rename_i hs; simpa using hs
  · cases h
theorem trod_row {fuel : Nat} {cs : List Value} {x : DataW H × List MemPlace} (h : DataW.trod enc Try.prog w base spare held fuel 22 cs = some x) (hl : ∀ n ∈ x.1.weights Try.prog 22, n ≤ 140737488351232) :
    ∃ (a : Option Addr) (c : Nat) (ps : List Pau), cs = [.slice a ps.length c] ∧ Row w a c ps := by
  rcases DataW.trod_slice Try.underlying22 h with ⟨rfl, rfl⟩ | ⟨a, len, cap, elems, rest, n, _, rfl, rfl, hb, hlc, hm, hlen, hel, _, _⟩
  · exact ⟨none, 0, [], rfl, by simp, by simp, by simp, by simp, .inl rfl⟩
  · have hw : (elems.length + rest.length) * 32 ≤ 140737488351232 := by
      have h1 : ∀ n ∈ DataW.weights Try.prog 22 (DataW.slice (elems.map (·.1)) (rest.map (·.1))), n ≤ 140737488351232 := hl
      rw [DataW.weights, Try.underlying22] at h1
      have h2 := h1 _ (List.mem_cons_self)
      rw [info27b] at h2
      simpa using h2
    have each : ∀ i, i < len → ∃ p : Pau, WF p ∧ (i = 0 → a.spot = none) ∧ Cells4 w a.block (a.off + i * 4) p := by
      intro i hi
      have hg := hel i hi
      rw [List.getElem?_eq_getElem (by omega), Option.bind_eq_some_iff] at hg
      obtain ⟨c, hc, htr⟩ := hg
      obtain ⟨p, rfl, hp⟩ := trod_pau htr
      rw [c27] at hc
      have hget := cells_get hc
      have hs : i = 0 → a.spot = none := fun h0 => by
        subst h0
        exact cell_spot (hget 0 _ rfl)
      have hadd : ∀ j, (a.add (i * 4)).add j = ⟨a.block, a.off + i * 4 + j, none⟩ := by
        intro j
        by_cases h0 : i = 0
        · subst h0
          have h1 := hs rfl
          cases a
          simp at h1
          subst h1
          unfold Addr.add
          split <;> simp_all
        · have h4 : ¬ i * 4 = 0 := by omega
          have e1 : a.add (i * 4) = ⟨a.block, a.off + i * 4, none⟩ := by unfold Addr.add; rw [if_neg h4]
          rw [e1]
          unfold Addr.add
          split
          · rename_i hj; subst hj; rfl
          · rfl
      refine ⟨p, hp, hs, ?_⟩
      have g0 := hget 0 _ rfl
      have g1 := hget 1 _ rfl
      have g2 := hget 2 _ rfl
      have g3 := hget 3 _ rfl
      rw [hadd] at g0 g1 g2 g3
      exact ⟨g0, g1, g2, g3⟩
    obtain ⟨l, hll, hq⟩ := list_of each
    refine ⟨some a, cap, l, by rw [hll], by omega, by unfold maxLen at hm; omega, by omega, fun p hp => ?_, ?_⟩
    · obtain ⟨i, hi, rfl⟩ := List.mem_iff_getElem.1 hp
      exact (hq i hi).1
    · by_cases h0 : l = []
      · exact .inl h0
      · right
        have hs := (hq 0 (List.length_pos_iff.2 h0)).2.1 rfl
        refine ⟨a.block, a.off, ?_, fun j hj => (hq j hj).2.2⟩
        cases a
        simp at hs
        rw [hs]
theorem light_agg {t : TypeId} {fs : Array Field} {l : List (DataW H)} (ht : Try.prog.underlying t = some (.struct fs)) (h : ∀ n ∈ (DataW.agg l).weights Try.prog t, n ≤ 140737488351232) : ∀ n ∈ DataW.weightsEach Try.prog (fs.toList.map (·.type)) l, n ≤ 140737488351232 := by
  intro n hn
  exact h n (by rw [DataW.weights, ht]; exact hn)
theorem trod_code {fuel : Nat} {cs : List Value} {x : DataW H × List MemPlace} (h : DataW.trod enc Try.prog w base spare held fuel 24 cs = some x) (hl : ∀ n ∈ x.1.weights Try.prog 24, n ≤ 140737488351232) :
    ∃ c : Cod, cs = [.int .i64 c.n, (Value.slice c.ga c.gs.length c.gc), (Value.slice c.xa c.xs.length c.xc), (Value.slice c.za c.zs.length c.zc)] ∧ CodAt w c := by
  obtain ⟨y0, y1, y2, y3, n, rfl, hlen, g0, g1, g2, g3⟩ := Joins.trod_struct4 Try.underlying24 h
  have hw := light_agg Try.underlying24 hl
  simp only [Array.toList, List.map_cons, List.map_nil, DataW.weightsEach, List.append_nil, List.mem_append] at hw
  rw [c24] at hlen
  simp only [c3, c22] at g0 g1 g2 g3
  obtain ⟨a, e0, -, w0⟩ := DataW.trod_int Try.underlying3 g0
  obtain ⟨ga, gc, gs, e1, r1⟩ := trod_row g1 (fun n hn => hw n (.inr (.inl hn)))
  obtain ⟨xa, xc, xs, e2, r2⟩ := trod_row g2 (fun n hn => hw n (.inr (.inr (.inl hn))))
  obtain ⟨za, zc, zs, e3, r3⟩ := trod_row g3 (fun n hn => hw n (.inr (.inr (.inr hn))))
  have q0 : I64 a := by simp [Lit.wf, IntKind.min, IntKind.max, IntKind.signed, IntKind.bits] at w0; unfold I64; omega
  exact ⟨⟨a, ga, gc, gs, xa, xc, xs, za, zc, zs⟩, four_of hlen e0 e1 e2 e3, q0, r1, r2, r3⟩
/-- A code, a string among the arguments. -/
theorem open_code {r : Reach} {b0 : Nat} {v : Value} {y : DataW H} {p : List MemPlace} (hv : Value.okWide Try.prog w r b0 24 v) (h : DataW.Trod enc Try.prog w base spare held 24 v y p) (hl : ∀ n ∈ y.weights Try.prog 24, n ≤ 140737488351232) : ∃ c : Cod, v = (Value.agg #[.int .i64 c.n, .slice c.ga c.gs.length c.gc, .slice c.xa c.xs.length c.xc, .slice c.za c.zs.length c.zc]) ∧ CodAt w c := by
  obtain ⟨cs, rfl, _⟩ := okWide_struct Try.underlying24 hv
  obtain ⟨fuel, hf⟩ := h
  obtain ⟨c, hc, hat⟩ := trod_code hf hl
  simp only [Value.cells] at hc
  refine ⟨c, ?_, hat⟩
  rw [← Array.toArray_toList (xs := cs), hc]
theorem open_pau {r : Reach} {b0 : Nat} {v : Value} {y : DataW H} {p : List MemPlace} (hv : Value.okWide Try.prog w r b0 27 v) (h : DataW.Trod enc Try.prog w base spare held 27 v y p) : ∃ q : Pau, v = (Value.agg #[.int .i64 q.n, .int .u64 q.x, .int .u64 q.z, .int .i64 q.ph]) ∧ WF q := by
  obtain ⟨cs, rfl, _⟩ := okWide_struct Try.underlying27 hv
  obtain ⟨fuel, hf⟩ := h
  obtain ⟨c, hc, hat⟩ := trod_pau hf
  simp only [Value.cells] at hc
  refine ⟨c, ?_, hat⟩
  rw [← Array.toArray_toList (xs := cs), hc]
end Go.Proofs.Ytfnmembjgclhoaa.CD
