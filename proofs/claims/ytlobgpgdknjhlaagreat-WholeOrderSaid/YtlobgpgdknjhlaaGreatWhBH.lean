/- A circuit handed in: opened. -/
import Derived.Test.YtlobgpgdknjhlaaGreatWhBG
import Derived.SizedLaws
import Derived.ChangeSlices
import Derived.ChangeArms
import Derived.DataElems
namespace Go.Proofs.YtlobgpgdknjhlaaGreat.WH
open Go Go.RowKit Go.ChangeShapes Go.WideShapes
set_option linter.unusedVariables false
set_option linter.unusedSimpArgs false
variable {H : Type} {enc : TypeId × Value → H} {w : World} {base : Nat} {spare : Nat → Bool} {held : Bool}
theorem co3 : Tryz.prog.cellsOf 3 = 1 := by kernel_rfl
theorem co9 : Tryz.prog.cellsOf 9 = 1 := by kernel_rfl
theorem co22 : Tryz.prog.cellsOf 22 = 1 := by kernel_rfl
theorem co4 : Tryz.prog.cellsOf 4 = 1 := by kernel_rfl
theorem co23 : Tryz.prog.cellsOf 23 = 1 := by kernel_rfl
theorem co28 : Tryz.prog.cellsOf 28 = 7 := by kernel_rfl
theorem co29 : Tryz.prog.cellsOf 29 = 1 := by kernel_rfl
theorem co31 : Tryz.prog.cellsOf 31 = 3 := by kernel_rfl
theorem seven_of {cs : List Value} {a b c d e f g : Value} (hl : cs.length = 7) (h0 : (cs.drop 0).take 1 = [a]) (h1 : (cs.drop 1).take 1 = [b]) (h2 : (cs.drop 2).take 1 = [c]) (h3 : (cs.drop 3).take 1 = [d]) (h4 : (cs.drop 4).take 1 = [e]) (h5 : (cs.drop 5).take 1 = [f]) (h6 : (cs.drop 6).take 1 = [g]) : cs = [a, b, c, d, e, f, g] := by
  match cs, hl with
  | [x0, x1, x2, x3, x4, x5, x6], _ => simp at h0 h1 h2 h3 h4 h5 h6; simp [h0, h1, h2, h3, h4, h5, h6]
theorem three_of {cs : List Value} {a b c : Value} (hl : cs.length = 3) (h0 : (cs.drop 0).take 1 = [a]) (h1 : (cs.drop 1).take 1 = [b]) (h2 : (cs.drop 2).take 1 = [c]) : cs = [a, b, c] := by
  match cs, hl with
  | [x0, x1, x2], _ => simp at h0 h1 h2; simp [h0, h1, h2]
theorem spot_none {a : Addr} {v : Value} (h : w.cell? a = some v) : a.spot = none := by
  unfold World.cell? at h
  split at h
  · split at h
    · cases h
    · rename_i hs; simpa using hs
  · cases h
theorem get_cells {b : Nat} {a : Addr} {n : Nat} {cs : List Value} (h : w.cells? b a n = some cs) : ∀ i u, cs[i]? = some u → w.cell? (a.add i) = some u := by
  unfold World.cells? at h
  split at h
  · have hl := mapM_some_length h
    rw [List.length_range] at hl
    intro i u hu
    have hi : i < n := by rw [← hl]; exact (List.getElem?_eq_some_iff.1 hu).1
    have := mapM_some_get h i i (by rw [List.getElem?_range hi])
    rw [this, hu]
  · cases h
theorem each_of {α : Type} {n : Nat} {Q : Nat → α → Prop} (h : ∀ i, i < n → ∃ v, Q i v) : ∃ l : List α, l.length = n ∧ ∀ (i : Nat) (h : i < l.length), Q i l[i] := by
  induction n with
  | zero => exact ⟨[], rfl, fun i hi => absurd hi (Nat.not_lt_zero _)⟩
  | succ n ih =>
    obtain ⟨l, hl, hq⟩ := ih (fun i hi => h i (by omega))
    obtain ⟨v, hv⟩ := h n (by omega)
    refine ⟨l ++ [v], by simp [hl], fun i hi => ?_⟩
    rw [List.getElem_append]
    split
    · exact hq i _
    · have : i = n := by simp [hl] at hi; omega
      subst this
      simpa using hv
theorem trod_ints {fuel : Nat} {cs : List Value} {x : DataW H × List MemPlace} (h : DataW.trod enc Tryz.prog w base spare held fuel 22 cs = some x) : ∃ aq cq, ∃ qs : List Int, cs = [.slice aq qs.length cq] ∧ IntsZ w aq cq qs := by
  rcases open_ints Tryz.underlying22 Tryz.underlying3 co3 h with ⟨hv, hx⟩ | ⟨a, len, cap, zs, hv, ha, hl, hc, hz, hx, hcell, hwf⟩
  · exact ⟨none, 0, [], hv, ⟨Nat.le_refl 0, Nat.zero_le _, .inl rfl⟩⟩
  · have hzl : len ≤ zs.length := by rw [hz]; split <;> omega
    unfold maxLen at hc
    have e1 : (zs.take len).length = len := by rw [List.length_take]; omega
    refine ⟨some a, cap, zs.take len, by rw [e1]; exact hv, ⟨by omega, by omega, ?_⟩⟩
    rcases Nat.eq_zero_or_pos len with rfl | h0
    · exact .inl rfl
    · have hs : a.spot = none := by
        have h1 := spot_none (hcell 0 (by omega))
        simpa [Addr.add] using h1
      obtain ⟨b, off, sp⟩ := a
      obtain rfl : sp = none := hs
      refine .inr ⟨b, off, rfl, fun j hj => ?_⟩
      have h1 := hcell j (by omega)
      have h2 : zs.getD j 0 = (zs.take len)[j] := by
        rw [List.getElem_take, List.getD, List.getElem?_eq_getElem (by omega)]; rfl
      rw [h2] at h1
      have h3 : (Addr.mk b off none).add j = ⟨b, off + j, none⟩ := by simp [Addr.add]
      rw [h3] at h1
      exact h1
set_option maxRecDepth 100000 in
theorem trod_op {fuel : Nat} {cs : List Value} {x : DataW H × List MemPlace} (h : DataW.trod enc Tryz.prog w base spare held fuel 28 cs = some x) : ∃ g : Oq, cs = g.cs ∧ IntsZ w g.aq g.cq g.qs := by
  obtain ⟨xs, n, -, -, hl, hlen, hf⟩ := DataW.trod_struct Tryz.underlying28 h
  rw [co28] at hl
  match xs, hlen with
  | [y0, y1, y2, y3, y4, y5, y6], _ =>
    have g0 : DataW.trod enc Tryz.prog w base spare held n 3 ((cs.drop 0).take (Tryz.prog.cellsOf 3)) = some y0 := hf 0 _ rfl
    have g1 : DataW.trod enc Tryz.prog w base spare held n 9 ((cs.drop 1).take (Tryz.prog.cellsOf 9)) = some y1 := hf 1 _ rfl
    have g2 : DataW.trod enc Tryz.prog w base spare held n 22 ((cs.drop 2).take (Tryz.prog.cellsOf 22)) = some y2 := hf 2 _ rfl
    have g3 : DataW.trod enc Tryz.prog w base spare held n 3 ((cs.drop 3).take (Tryz.prog.cellsOf 3)) = some y3 := hf 3 _ rfl
    have g4 : DataW.trod enc Tryz.prog w base spare held n 4 ((cs.drop 4).take (Tryz.prog.cellsOf 4)) = some y4 := hf 4 _ rfl
    have g5 : DataW.trod enc Tryz.prog w base spare held n 23 ((cs.drop 5).take (Tryz.prog.cellsOf 23)) = some y5 := hf 5 _ rfl
    have g6 : DataW.trod enc Tryz.prog w base spare held n 23 ((cs.drop 6).take (Tryz.prog.cellsOf 23)) = some y6 := hf 6 _ rfl
    rw [co3] at g0 g3
    rw [co9] at g1
    rw [co22] at g2
    rw [co4] at g4
    rw [co23] at g5 g6
    obtain ⟨kind, e0, -, -⟩ := DataW.trod_int Tryz.underlying3 g0
    obtain ⟨name, e1, -, -⟩ := DataW.trod_string Tryz.underlying9 g1
    obtain ⟨aq, cq, qs, e2, hq⟩ := trod_ints g2
    obtain ⟨bit, e3, -, -⟩ := DataW.trod_int Tryz.underlying3 g3
    obtain ⟨iff, e4, -⟩ := DataW.trod_bool Tryz.underlying4 g4
    obtain ⟨mask, e5, -, w5⟩ := DataW.trod_int Tryz.underlying23 g5
    obtain ⟨val, e6, -, w6⟩ := DataW.trod_int Tryz.underlying23 g6
    have q5 : 0 ≤ mask := by simp [Lit.wf, IntKind.min, IntKind.max, IntKind.signed, IntKind.bits] at w5; omega
    have q6 : 0 ≤ val := by simp [Lit.wf, IntKind.min, IntKind.max, IntKind.signed, IntKind.bits] at w6; omega
    obtain ⟨mask, rfl⟩ : ∃ k : Nat, mask = (k : Int) := ⟨mask.toNat, by omega⟩
    obtain ⟨val, rfl⟩ : ∃ k : Nat, val = (k : Int) := ⟨val.toNat, by omega⟩
    exact ⟨⟨kind, name, aq, cq, qs, bit, iff, mask, val⟩, seven_of hl e0 e1 e2 e3 e4 e5 e6, hq⟩
theorem trod_ops {fuel : Nat} {cs : List Value} {x : DataW H × List MemPlace} (h : DataW.trod enc Tryz.prog w base spare held fuel 29 cs = some x) : ∃ a c, ∃ gs : List Oq, cs = [.slice a gs.length c] ∧ CircQ w a c gs := by
  rcases DataW.trod_slice Tryz.underlying29 h with ⟨rfl, rfl⟩ | ⟨a, len, cap, elems, rest, n, _, rfl, rfl, hb, hlc, hm, hlen, hel, _, _⟩
  · exact ⟨none, 0, [], rfl, ⟨Nat.le_refl 0, Nat.zero_le _, fun g hg => by simp at hg, .inl rfl⟩⟩
  · have each : ∀ i, i < len → ∃ g : Oq, IntsZ w g.aq g.cq g.qs ∧ (i = 0 → a.spot = none) ∧ CellQ w a.block (a.off + i * 7) g := by
      intro i hi
      have hg := hel i hi
      rw [List.getElem?_eq_getElem (by omega), Option.bind_eq_some_iff] at hg
      obtain ⟨c, hc, htr⟩ := hg
      obtain ⟨g, rfl, hp⟩ := trod_op htr
      rw [co28] at hc
      have hget := get_cells hc
      have hs : i = 0 → a.spot = none := fun h0 => by
        subst h0
        have h1 := spot_none (hget 0 _ rfl)
        simpa [Addr.add] using h1
      have hadd : ∀ j, (a.add (i * 7)).add j = ⟨a.block, a.off + i * 7 + j, none⟩ := by
        intro j
        by_cases h0 : i = 0
        · subst h0
          have h1 := hs rfl
          cases a
          simp at h1
          subst h1
          unfold Addr.add
          split <;> simp_all
        · have h4 : ¬ i * 7 = 0 := by omega
          have e1 : a.add (i * 7) = ⟨a.block, a.off + i * 7, none⟩ := by unfold Addr.add; rw [if_neg h4]
          rw [e1]
          unfold Addr.add
          split
          · rename_i hj; subst hj; rfl
          · rfl
      have g0 := hget 0 _ rfl
      have g1 := hget 1 _ rfl
      have g2 := hget 2 _ rfl
      have g3 := hget 3 _ rfl
      have g4 := hget 4 _ rfl
      have g5 := hget 5 _ rfl
      have g6 := hget 6 _ rfl
      rw [hadd] at g0 g1 g2 g3 g4 g5 g6
      exact ⟨g, hp, hs, ⟨g0, g1, g2, g3, g4, g5, g6⟩⟩
    obtain ⟨l, hll, hq⟩ := each_of each
    unfold maxLen at hm
    refine ⟨some a, cap, l, by rw [hll], ⟨by omega, by omega, fun g hg => ?_, ?_⟩⟩
    · obtain ⟨i, hi, rfl⟩ := List.mem_iff_getElem.1 hg
      exact (hq i hi).1
    · by_cases h0 : l = []
      · exact .inl h0
      · right
        have hs := (hq 0 (List.length_pos_iff.2 h0)).2.1 rfl
        refine ⟨a.block, a.off, ?_, fun j hj => (hq j hj).2.2⟩
        cases a
        simp at hs
        rw [hs]
set_option maxRecDepth 100000 in
/-- A circuit among the arguments. -/
theorem open_circ {r : Reach} {b0 : Nat} {v : Value} {y : DataW H} {p : List MemPlace} (hv : Value.okWide Tryz.prog w r b0 31 v) (h : DataW.Trod enc Tryz.prog w base spare held 31 v y p) :
    ∃ (n b : Int) (a : Option Addr) (c : Nat) (gs : List Oq), v = .agg #[.int .i64 n, .int .i64 b, .slice a gs.length c] ∧ CircQ w a c gs := by
  obtain ⟨cs, rfl, _⟩ := okWide_struct Tryz.underlying31 hv
  obtain ⟨fuel, hf⟩ := h
  obtain ⟨xs, m, -, -, hl, hlen, hg⟩ := DataW.trod_struct Tryz.underlying31 hf
  rw [co31] at hl
  match xs, hlen with
  | [y0, y1, y2], _ =>
    have g0 : DataW.trod enc Tryz.prog w base spare held m 3 ((cs.toList.drop 0).take (Tryz.prog.cellsOf 3)) = some y0 := hg 0 _ rfl
    have g1 : DataW.trod enc Tryz.prog w base spare held m 3 ((cs.toList.drop 1).take (Tryz.prog.cellsOf 3)) = some y1 := hg 1 _ rfl
    have g2 : DataW.trod enc Tryz.prog w base spare held m 29 ((cs.toList.drop 2).take (Tryz.prog.cellsOf 29)) = some y2 := hg 2 _ rfl
    rw [co3] at g0 g1
    rw [co29] at g2
    obtain ⟨n, e0, -, -⟩ := DataW.trod_int Tryz.underlying3 g0
    obtain ⟨b, e1, -, -⟩ := DataW.trod_int Tryz.underlying3 g1
    obtain ⟨a, c, gs, e2, hc⟩ := trod_ops g2
    have hcs := three_of hl e0 e1 e2
    simp only [Value.cells] at hcs
    exact ⟨n, b, a, c, gs, by rw [← Array.toArray_toList (xs := cs), hcs], hc⟩
end Go.Proofs.YtlobgpgdknjhlaaGreat.WH
