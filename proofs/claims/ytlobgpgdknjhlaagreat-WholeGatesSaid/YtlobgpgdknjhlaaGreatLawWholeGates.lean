/- WholeGates (the top): for every name, row of qubits, count and basis state the law returns true and the arguments read as they did. No condition. -/
import Derived.Test.YtlobgpgdknjhlaaGreatRows
import Derived.Test.YtlobgpgdknjhlaaGreatWhAM
import Derived.ShutString
import Derived.WalkKit
import Derived.ProofKit
import Derived.OpenShut
import Derived.ChangeOld
import Derived.SizedLaws
import Derived.Below
import Derived.Lib.SmallJoins
import Derived.ChangeSlices
namespace Go.Proofs.YtlobgpgdknjhlaaGreat.wholeGates
open Go.ChangeShapes Go.WideShapes Go.ChangeAt Go.RowKit
open Go.ChangeMaps (open_string shut_string)
set_option linter.unusedVariables false
theorem own : ownKnob Tryz.prog.godebug = none := by kernel_rfl
theorem laidOut : laidOutB Tryz.prog = true := by kernel_rfl
theorem word_of {z : Int} (h : (Lit.int .u64 z).wf = true) : ∃ x : Nat, z = (x : Int) ∧ x < 2 ^ 64 := by
  simp [Lit.wf, IntKind.min, IntKind.max, IntKind.signed, IntKind.bits] at h
  exact ⟨z.toNat, by omega, by omega⟩
theorem c3 : Tryz.prog.cellsOf 3 = 1 := by kernel_rfl
set_option maxRecDepth 100000 in
/-- A row of whole numbers, opened. -/
theorem ints_of {H : Type} {enc : TypeId × Value → H} {W : World} {v : Value} {d : DataW H} {p : List MemPlace} {r : Reach} {b0 : Nat} (hv : Value.okWide Tryz.prog W r b0 22 v) (h : DataW.Trod enc Tryz.prog W 0 (fun _ => true) true 22 v d p) :
    ∃ aq cq qs, v = .slice aq (qs : List Int).length cq ∧ WH.IntsZ W aq cq qs := by
  obtain ⟨a0, l0, c0, rfl⟩ := okWide_slice Tryz.underlying22 hv
  obtain ⟨m, hm⟩ := h
  rcases open_ints Tryz.underlying22 Tryz.underlying3 c3 hm with ⟨hv, hx⟩ | ⟨a, len, cap, zs, hv, ha, hl, hc, hz, hx, hcell, hwf⟩
  · simp only [Value.cells, Array.toList, List.cons.injEq, Value.slice.injEq, and_true] at hv
    obtain ⟨rfl, rfl, rfl⟩ := hv
    exact ⟨none, 0, [], rfl, ⟨Nat.le_refl 0, Nat.zero_le _, .inl rfl⟩⟩
  · simp only [Value.cells, Array.toList, List.cons.injEq, Value.slice.injEq, and_true] at hv
    obtain ⟨rfl, rfl, rfl⟩ := hv
    simp only [if_true] at hz
    unfold maxLen at hc
    have e1 : (zs.take l0).length = l0 := by rw [List.length_take]; omega
    refine ⟨some a, c0, zs.take l0, by rw [e1], ⟨by omega, by omega, ?_⟩⟩
    rcases Nat.eq_zero_or_pos l0 with rfl | h0
    · exact .inl rfl
    · have hs : a.spot = none := by
        have h1 := hcell 0 (by omega)
        unfold World.cell? at h1
        split at h1
        · split at h1
          · cases h1
          · rename_i h2
            have : (a.add 0).spot = a.spot := rfl
            rw [this] at h2
            cases h3 : a.spot with
            | none => rfl
            | some x => rw [h3] at h2; simp at h2
        · cases h1
      obtain ⟨b, off, sp⟩ := a
      obtain rfl : sp = none := hs
      refine .inr ⟨b, off, rfl, fun j hj => ?_⟩
      have h1 := hcell j (by omega)
      have h2 : zs.getD j 0 = (zs.take l0)[j] := by
        rw [List.getElem_take, List.getD, List.getElem?_eq_getElem (by omega)]; rfl
      rw [h2] at h1
      have h3 : (Addr.mk b off none).add j = ⟨b, off + j, none⟩ := by simp [Addr.add]
      rw [h3] at h1
      exact h1
set_option maxRecDepth 100000 in
theorem lifted (os : Os) (started : os.Started) (H : Type) (enc : TypeId × Value → H) :
    ReturnsInHanded {} Tryz.checked os 3 .any (Rows.wholeGatesSpec.pre6 enc Tryz.prog Tryz.f3 Rows.wholeGatesRow.domain false) (Rows.wholeGatesSpec.post enc Tryz.prog Tryz.f3 false true false false) := by
  refine returnsInHanded_of_change_sized (C := Tryz.checked) own started (by kernel_rfl) Tryz.func3
    (ChangeSpec.witness6 (enc := enc) (C := Tryz.checked) false ⟨#[], #[.string ByteArray.empty, .slice none 0 0, .int .i64 0, .int .u64 0], []⟩ 8 (by kernel_rfl) (by kernel_rfl) (by kernel_rfl) (by kernel_rfl)) ?_
  intro W base args ds gs before hval0 hW hcnd hsz0 _
  have hsz : (DataW.weightsEach Tryz.prog (Tryz.f3.params.toList ++ Rows.wholeGatesSpec.plain.varTypes Tryz.prog) (ds ++ gs)).all (· ≤ reachBytes) = true := hsz0
  have hval : ∀ (j : Nat) t v, Tryz.f3.params[j]? = some t → args[j]? = some v → Value.okWide Tryz.prog W .any base t v := hval0
  have hW' := hW
  obtain ⟨p, q, hA0, hV, rfl, hfz, hnd⟩ := hW
  have hA : DataW.TrodAll enc Tryz.prog W 0 (fun _ => true) true Tryz.f3.params.toList args.toList ds p := hA0
  rw [Tryz.params3] at hA hval hsz
  obtain ⟨v0, vs0, d0, ds0, p0, q0, hargs, rfl, rfl, h0, r0⟩ := trodAll_cons hA
  obtain ⟨v1, vs1, d1, ds1, p1, q1, rfl, rfl, rfl, h1, r1⟩ := trodAll_cons r0
  obtain ⟨v2, vs2, d2, ds2, p2, q2, rfl, rfl, rfl, h2, r2⟩ := trodAll_cons r1
  obtain ⟨v3, vs3, d3, ds3, p3, q3, rfl, rfl, rfl, h3, r3⟩ := trodAll_cons r2
  obtain ⟨rfl, rfl, rfl⟩ := trodAll_nil r3
  obtain rfl : args = #[v0, v1, v2, v3] := by cases args; simp_all
  obtain ⟨rfl, rfl⟩ := trodVars_none hV
  obtain ⟨a0, rfl, rfl, rfl, y0⟩ := open_string Tryz.underlying9 (hval 0 9 v0 rfl rfl) h0
  have k1 := h1
  have lt1 : ∀ x ∈ p1, x.block < W.heap.size := by obtain ⟨m, hm⟩ := k1; exact DataW.trod_lt m _ _ _ hm
  obtain ⟨aq, cq, qs, rfl, hi⟩ := ints_of (hval 1 22 v1 rfl rfl) h1
  obtain ⟨n, rfl, rfl, rfl, y2⟩ := open_int Tryz.underlying3 (hval 2 3 v2 rfl rfl) h2
  obtain ⟨x, rfl, rfl, rfl, y3⟩ := open_int Tryz.underlying23 (hval 3 23 v3 rfl rfl) h3
  obtain ⟨x, rfl, hx⟩ := word_of y3
  clear hA0 hval0 hsz0 hsz
  refine (WH.wholeGates_walk a0 aq cq qs n x hx W hi).mono fun e W' ⟨he, bel⟩ => ?_
  subst he
  exact ⟨_, rfl, _, _, _, [], _, [], hW', trodAll_mk1 (shut_bool Tryz.underlying4 _), (trodAll_cons_mk (shut_string Tryz.underlying9 y0) (trodAll_cons_mk (Below.trod laidOut (by kernel_rfl) (of_decide_eq_true (by kernel_rfl)) k1 bel lt1) (trodAll_cons_mk (shut_int Tryz.underlying3 y2) (trodAll_cons_mk (shut_int Tryz.underlying23 y3) trodAll_mk0)))), rfl, bel.frame _, fun h => by cases h⟩
theorem over : Rows.wholeGatesRow.holds Tryz.pinned (OpenSpec.ofChange Rows.wholeGatesSpec) :=
  OpenClaim.holds_of_wide 3 Tryz.f3 rfl rfl rfl rfl rfl rfl rfl ⟨rfl, rfl, rfl, rfl, rfl⟩ rfl rfl rfl rfl rfl (by kernel_rfl) Tryz.func3 (by kernel_rfl)
    (of_decide_eq_true (by kernel_rfl)) (by unfold Func.isWrapper; first | (rw [if_pos (by decide +kernel)]; kernel_rfl) | (rw [if_neg (by decide +kernel)]; exact ⟨rfl, rfl⟩))
    (fun os started H enc _ => lifted os started H enc)
theorem proved : Rows.WholeGatesSaid := over
#print axioms proved
end Go.Proofs.YtlobgpgdknjhlaaGreat.wholeGates
namespace Go.Proofs.YtlobgpgdknjhlaaGreat
/-- The row, under a short name, for the claim. -/
theorem wholeGates_holds : Rows.WholeGatesSaid := wholeGates.proved
end Go.Proofs.YtlobgpgdknjhlaaGreat
