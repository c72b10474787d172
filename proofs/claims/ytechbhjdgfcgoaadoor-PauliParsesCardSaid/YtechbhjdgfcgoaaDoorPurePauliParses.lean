/- PauliParses: every Parse answers as the document's, for every list of texts. -/
import Derived.Test.YtechbhjdgfcgoaaDoorPauParse
import Derived.Test.YtechbhjdgfcgoaaDoorPAx7
namespace Go.Proofs.YtechbhjdgfcgoaaDoor.Pure
open Go Go.RowKit Go.Proofs.YtechbhjdgfcgoaaDoor.PA Go.Proofs.YtechbhjdgfcgoaaDoor.B Go.Proofs.YtechbhjdgfcgoaaDoorW.PrintWords Go.Proofs.YtechbhjdgfcgoaaDoorW.PrintLast Go.Proofs.YtechbhjdgfcgoaaDoorW.PrintMore
set_option linter.unusedVariables false
set_option linter.unusedSimpArgs false
theorem awake : cubitlaw07_awake.f 1 = some true := by decide +kernel
theorem PauliParses : cubitlaw07_PauliParses.Pure := by
  intro l hl hb
  have hlen : l.length ≤ 140737488351232 := by omega
  have loop : ∀ (d j : Nat), j + d = l.length → Ev (fun k => cubitlaw07_PauliParses.l0 k l (l.length : Int) (j : Int)) true := by
    intro d
    induction d with
    | zero =>
      intro j hj
      refine Ev.step (f := fun _ => some true) (fun k => ?_) (Ev.now _)
      rw [cubitlaw07_PauliParses.l0, if_neg (by omega)]
    | succ d ih =>
      intro j hj
      have hlt : j < l.length := by omega
      have hrd : rdOf ByteArray.empty l (j : Int) = l[j] := by
        unfold rdOf
        rw [Int.toNat_natCast, List.getD_eq_getElem?_getD, List.getElem?_eq_getElem hlt]
        rfl
      have hs : (l[j]).size ≤ 140737488351232 := hb _ (List.getElem_mem hlt)
      have hw : wrap64 ((j : Int) + 1) = ((j + 1 : Nat) : Int) := wn (by omega)
      refine Ev.step (f := fun k => (cubitref07_Parse.f k l[j]).bind fun bt161 => ((pauli_Parse.f l[j]).bind fun bt167 => (if (!(bt167.1 == bt161.1) || (!(bt167.2.1 == bt161.2.1) || (!(bt167.2.2.1 == bt161.2.2.1) || (!(bt167.2.2.2.1 == bt161.2.2.2.1))))) = true then (some false) else (if bt167.2.2.2.2 = bt161.2.2.2.2 then (cubitlaw07_PauliParses.l0 k l (l.length : Int) ((j + 1 : Nat) : Int)) else (some false))))) (fun k => ?_) (Ev.bind (refparse_ev hs) ?_)
      · rw [cubitlaw07_PauliParses.l0, if_pos (by omega), if_pos (by omega), if_pos (by omega), hrd, hw]
      · simp only [parse_some hs, bs, beq_self_eq_true, Bool.not_true, Bool.or_self, Bool.false_eq_true, if_false, if_true]
        exact ih (j + 1) (by omega)
  refine Ev.rounds ?_
  unfold cubitlaw07_PauliParses.f
  refine Ev.bind (Ev.of cubitlaw07_awake.mono (k := 1) awake) ?_
  simp only [if_true]
  exact loop l.length 0 (by omega)
end Go.Proofs.YtechbhjdgfcgoaaDoor.Pure
