/- LexJoins: every IsName and Join answers as the document's, and the tokens and what lies behind them stay; where the arguments are of bulk at most 1048576. -/
import Derived.Test.YtkonklmgkkbnmaaLexJoin
import Derived.Test.YtkonklmgkkbnmaaPureLexScans
namespace Go.Proofs.Ytkonklmgkkbnmaa.Pure
open Go.RowKit Go.Proofs.Ytkonklmgkkbnmaa.PA Go.Proofs.Ytkonklmgkkbnmaa.B Go.Proofs.YtkonklmgkkbnmaaW.PrintWords Go.Proofs.YtkonklmgkkbnmaaW.PrintLast Go.Proofs.YtkonklmgkkbnmaaW.PrintMore
set_option linter.unusedVariables false
set_option linter.unusedSimpArgs false
theorem bulk_sum : ∀ l : List S31, (l.map fun v0 => ((1 + ((v0.f1.size + 1) + 1)) + 1)).sum = szs l + 4 * l.length
  | [] => rfl
  | t :: l => by
    have := bulk_sum l
    simp only [List.map_cons, List.sum_cons, szs, List.length_cons] at this ⊢
    omega
theorem LexJoins : cubitlaw09_LexJoins.Pure := by
  intro s l hs hy hw hup
  rw [bulk_sum] at hup
  have hl : l.length ≤ 2000000 := by omega
  have hz : szs l ≤ 2000000 := by omega
  have hb : ∀ t ∈ l, t.f1.size ≤ 140737488351232 := fun t ht => (hw t ht).2.1
  clear hw hup hy
  refine Ev.rounds ?_
  unfold cubitlaw09_LexJoins.f
  refine Ev.bind awake_ev ?_
  simp only [if_true, bs, List.nil_append]
  have htk : (l ++ [(⟨77, (⟨#[]⟩ : ByteArray), 0⟩ : S31)]).take ((l.length : Int) : Int).toNat = l := by
    rw [Int.toNat_natCast, List.take_left]
  have hmark : rd_T31 (l ++ [(⟨77, (⟨#[]⟩ : ByteArray), 0⟩ : S31)]) (l.length : Int) = ⟨77, (⟨#[]⟩ : ByteArray), 0⟩ := by
    unfold rd_T31
    rw [Int.toNat_natCast]
    simp
  have hll : ((l ++ [(⟨77, (⟨#[]⟩ : ByteArray), 0⟩ : S31)]).length : Int) = (l.length : Int) + 1 := by simp
  have g0 : ([] : List S31).length + l.length < 4398046511104 := by simp; omega
  have g1 : l.length < 4398046511104 := by omega
  have g2 : (l.length : Int) ≤ ((l ++ [(⟨77, (⟨#[]⟩ : ByteArray), 0⟩ : S31)]).length : Int) := by omega
  have g3 : (0 : Int) ≤ (l.length : Int) := by omega
  simp only [if_pos g0, if_pos g1]
  refine Ev.bind (ref_join l hl hz hb) ?_
  simp only [if_pos g2, if_pos g3, htk]
  refine Ev.bind (prog_join l hl hz hb) ?_
  simp only [if_true]
  refine Ev.bind (isName_ev hs) ?_
  refine Ev.bind (refname_ev hs) ?_
  simp only [beq_self_eq_true, if_true]
  refine Ev.bind (same_refl l (by omega)) ?_
  simp only [if_true]
  rw [if_pos (by omega), hmark]
  exact Ev.now _
end Go.Proofs.Ytkonklmgkkbnmaa.Pure
