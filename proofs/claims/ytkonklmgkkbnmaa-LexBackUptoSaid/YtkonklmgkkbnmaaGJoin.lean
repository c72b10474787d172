/- make([]T, 0, n): an empty row with room; strings.Join over a row that the caller made, by the shelf's contract. -/
import Derived.Test.YtkonklmgkkbnmaaShelf2
import Derived.Test.YtkonklmgkkbnmaaWMore
namespace Go.Proofs.YtkonklmgkkbnmaaW.PrintWords
open Go Go.RowKit
set_option linter.unusedVariables false
namespace Kd
section
variable {P : Program} {ops : Array Oper} {rest : List Oper} {o : Oper} {a : Act} {Q : Exit → Act → World → Prop} {W : World}
variable {α : Type}
theorem R_makecap (d : Kd α) {w0 W : World} (base e : Nat) (hgd : o.guard = none) {N : Tmp} (hd : o.dst = some N) (t : TypeId) (x y : Operand) (ho : o.op = .makeSlice t x y) (n : Int) (hx : a.eval x = .int .i64 0) (hy : a.eval y = .int .i64 n)
    (ht : P.underlying t = some (.slice e)) (z : Value) (bytes : Nat) (hinfo : (P.info? e).map (fun i => (i.zero, i.size, i.bytes)) = some (some z, d.sz, bytes)) (hz : z.cells.size = d.sz) (hs0 : 0 < d.sz) (hb0 : 0 < bytes)
    (z0 : α) {ok okp : Nat → Prop} (hzero : d.M W base okp z0 z.cells.toList) (hok : ∀ k, okp k → ok k) (hfresh : ok W.heap.size) (h0 : 0 ≤ n) (hl : n.toNat * bytes ≤ 281474976710656) (HB : Below base w0 W) (hbase : base ≤ W.heap.size)
    (h : ∀ v1 w1, d.R e w1 base ok v1 [] → Below base w0 w1 → W.grownBy w1 none → (∃ b, v1.ownBlock = some b ∧ W.heap.size ≤ b) → wpList P ops Q rest (a.put o.dst v1) w1) : wpList P ops Q (o :: rest) a W := by
  obtain ⟨m, rfl⟩ := Int.eq_ofNat_of_zero_le h0
  simp only [Int.toNat_natCast] at hl
  obtain ⟨i0, hi, hzz⟩ := Option.map_eq_some_iff.1 hinfo
  simp only [Prod.mk.injEq] at hzz
  obtain ⟨hz0, hz1, hz2⟩ := hzz
  have hm : m ≤ 281474976710656 := Nat.le_trans (Nat.le_mul_of_pos_right _ hb0) hl
  have hr := run_make (P := P) W t e i0 z ht hi hz0 .i64 .i64 (0 : Int) (m : Int) (by omega) (by omega)
    (by
      have h3 : ((i0.bytes * m : Nat) : Int) ≤ 281474976710656 := by rw [hz2, Nat.mul_comm]; omega
      rwa [Int.natCast_mul] at h3) (by omega)
  simp only [Int.toNat_natCast, Int.toNat_zero] at hr
  rw [hz1] at hr
  have hrun : (execOp a.eval o).run P W = .ok (.value (.slice (some ⟨W.heap.size, 0, none⟩) 0 m)) (W.alloc (.cells (madeCells z.cells (m * d.sz)) e)) := by
    simp [execOp, ho, hx, hy, hr]
  refine event_run hgd hrun (h _ _ ⟨fun k hk => ?_, [], ?_, Reps.none _ _⟩ (HB.alloc hbase _) (World.grownBy_alloc W _ none) ⟨W.heap.size, by simp [Value.ownBlock], Nat.le_refl _⟩)
  · have : W.heap.size = k := by simpa [Value.ownBlock] using hk
    subst this
    exact hfresh
  · refine ⟨by simp, .inr ⟨W.heap.size, m, madeCells z.cells (m * d.sz), rfl, hbase, ?_, by simp, by unfold maxLen; omega, by simp [size_madeCells], by simp⟩⟩
    exact heap_alloc_new W _
theorem R_spot {d : Kd α} {e n c : Nat} {w : World} {base : Nat} {ok : Nat → Prop} {A : Option Addr} {xs : List α} (h : d.R e w base ok (.slice A n c) xs) : ∀ ad, A = some ad → ad.spot = none ∧ ad.block < w.heap.size := by
  rintro ad rfl
  obtain ⟨_, inner, ho, _⟩ := h
  rcases ho.2 with ⟨h1, _⟩ | ⟨g, cap, cur, h1, _, h2, _⟩
  · cases h1
  · injection h1 with h1
    injection h1 with h1
    subst h1
    refine ⟨rfl, ?_⟩
    rcases Nat.lt_or_ge g w.heap.size with hlt | hge
    · exact hlt
    · rw [Array.getElem?_eq_none hge] at h2
      cases h2
end
end Kd
end Go.Proofs.YtkonklmgkkbnmaaW.PrintWords
namespace Go.Proofs.Ytkonklmgkkbnmaa.PA
open Go Go.RowKit Go.Proofs.YtkonklmgkkbnmaaW.PrintWords Go.Proofs.YtkonklmgkkbnmaaW.PrintLast Go.Proofs.YtkonklmgkkbnmaaW.PrintMore
def strings_Join.f (l : List ByteArray) (sep : ByteArray) : Option ByteArray :=
  if (Lib.join (l.map (·.data.toList)) sep.data.toList).length ≤ 140737488355328 ∧ l.length ≤ 140737488355328 then some ⟨(Lib.join (l.map (·.data.toList)) sep.data.toList).toArray⟩ else none
theorem strings_Join.calls (A0 : Option Addr) (c0 : Nat) (l0 : List ByteArray) (a1 : ByteArray) (r : ByteArray) (w : World) (hr0 : Kd.C Kd.string w A0 l0.length l0) (hc0 : l0.length ≤ c0) (h : strings_Join.f l0 a1 = some r)
    (hA : ∀ ad, A0 = some ad → ad.spot = none ∧ ad.block < w.heap.size) :
    Calls Try.prog 29 #[.slice A0 l0.length c0, .string a1] w fun e w' => e = .returned (.string r) ∧ Below w.heap.size w w' := by
  unfold strings_Join.f at h
  by_cases hc : (Lib.join (l0.map (·.data.toList)) a1.data.toList).length ≤ 140737488355328 ∧ l0.length ≤ 140737488355328
  · rw [if_pos hc] at h
    obtain rfl := Option.some.inj h
    cases l0 with
    | nil =>
      refine (Try.strings_Join_none A0 c0 a1 w).mono ?_
      rintro e w' ⟨rfl, rfl⟩
      exact ⟨rfl, Below.refl _ _⟩
    | cons x l =>
      obtain ⟨ad, e0, hcell0⟩ := Kd.at_string hr0 0 (Int.le_refl _) (by simp)
      subst e0
      have hA2 := hA ad rfl
      obtain ⟨b, o, sp⟩ := ad
      obtain rfl : sp = none := hA2.1
      refine (Try.strings_Join b o c0 (x :: l) a1 w ?_ hA2.2 hc.2 hc0 hc.1).mono ?_
      · intro j y hj
        have hlt : j < (x :: l).length := (List.getElem?_eq_some_iff.1 hj).1
        obtain ⟨ad, e1, hcell⟩ := Kd.at_string hr0 (j : Int) (by omega) (by omega)
        cases e1
        simp only [Int.toNat_natCast] at hcell
        have hy : rdOf ByteArray.empty (x :: l) (j : Int) = y := by
          unfold rdOf
          rw [List.getD_eq_getElem?_getD, Int.toNat_natCast, hj]
          rfl
        rw [hy] at hcell
        have ha : (⟨b, o, none⟩ : Addr).add j = ⟨b, o + j, none⟩ := by
          unfold Addr.add
          split
          · rename_i hz
            subst hz
            rfl
          · rfl
        rw [ha] at hcell
        exact hcell
      · rintro e w' ⟨rfl, hb⟩
        exact ⟨rfl, hb⟩
  · rw [if_neg hc] at h
    cases h
end Go.Proofs.Ytkonklmgkkbnmaa.PA
