/- BitsSets: small laws of the walk: a result in a cell; the marks of the loops over a function at the return. -/
import Derived.Test.YtoebcbhadcpcoaaDoorSetsA
import Derived.Laws.ResultCell
namespace Go.Proofs.YtoebcbhadcpcoaaDoor.PA
open Go.RowKit Go.Shelf
set_option linter.unusedVariables false
set_option linter.unusedSimpArgs false
theorem blk (a : Addr) (n : Nat) : (a.add n).block = a.block := by unfold Addr.add; split <;> rfl
set_option maxRecDepth 100000 in
/-- No function value that was made is nil. -/
theorem eql_nilFunc (g : Fn) (x y : Array Value) (w : World) : (Sem.run Tryd.prog (binOp .eql 51 (.func g x y) .nilFunc) w) = .ok (.bool false) w := by
  have hu := Tryd.underlying51
  have h : (Op.equal 51 (.func g x y) .nilFunc).run Tryd.prog w = .ok false w := by
    show (Op.equalIn (9999 + 1) 51 (.func g x y) .nilFunc).run Tryd.prog w = .ok false w
    rw [Op.equalIn]
    simp only [Sem.run_bind, run_underlying hu]
    rfl
  simp [binOp, go_sem, h]
theorem res8 (tmps : Array Value) (W : World) (b : Nat) (v : Bool) (ht : tmps.getD 8 undef = .pointer (some ⟨b, 0, none⟩)) (hc : W.cell? ⟨b, 0, none⟩ = some (.bool v)) :
    (results Tryd.f6 tmps).run Tryd.prog W = .ok (.bool v) W := by
  have hr : Tryd.f6.results = #[.cell 8 4] := rfl
  unfold results
  rw [hr]
  have ht' : tmps[8]?.getD undef = .pointer (some ⟨b, 0, none⟩) := by simpa using ht
  simp [go_sem, ht', hc]
theorem bxBelow {B₀ : Nat} {W W' : World} {B : Nat} {t : TypeId} {v : Value} (h : Boxed W B t v) (hb : Below B₀ W W') (hl : B < B₀) : Boxed W' B t v := (hb.block B hl).trans h
theorem bxMask {W : World} {B : Nat} {t : TypeId} {v : Value} (h : Boxed W B t v) (p : Addr) (u : Value) (hp : B ≠ p.block) : Boxed (W.setCell p u) B t v := (Below.heap_setCell W p u B hp).trans h
def mark (D : Nat) : Deferred := { target := .collected D, args := #[] }
/-- The marks that stand among the deferred calls, each with its own block, all at or beyond B and below T. -/
def Marks (B T : Nat) (ds : List Deferred) (W : World) : Prop := ∃ Ds : List Nat, ds = Ds.map mark ∧ Ds.Nodup ∧ ∀ D ∈ Ds, B ≤ D ∧ D < T ∧ W.heap[D]? = some (.deferred (some []))
theorem Marks.nil (B T : Nat) (W : World) : Marks B T [] W := ⟨[], rfl, List.nodup_nil, fun _ h => by cases h⟩
theorem Marks.step {B T : Nat} {ds : List Deferred} {W W' : World} (h : Marks B T ds W) (hk : ∀ D, D < T → W.heap[D]? = some (.deferred (some [])) → W'.heap[D]? = W.heap[D]?) : Marks B T ds W' := by
  obtain ⟨Ds, e, hn, hD⟩ := h
  exact ⟨Ds, e, hn, fun D hm => ⟨(hD D hm).1, (hD D hm).2.1, (hk D (hD D hm).2.1 (hD D hm).2.2).trans (hD D hm).2.2⟩⟩
theorem Marks.below {B T B₀ : Nat} {ds : List Deferred} {W W' : World} (h : Marks B T ds W) (hb : Below B₀ W W') (hl : T ≤ B₀) : Marks B T ds W' :=
  h.step (fun D hD _ => hb.block D (Nat.lt_of_lt_of_le hD hl))
theorem Marks.mono {B T T' : Nat} {ds : List Deferred} {W : World} (h : Marks B T ds W) (hl : T ≤ T') : Marks B T' ds W := by
  obtain ⟨Ds, e, hn, hD⟩ := h
  exact ⟨Ds, e, hn, fun D hm => ⟨(hD D hm).1, Nat.lt_of_lt_of_le (hD D hm).2.1 hl, (hD D hm).2.2⟩⟩
/-- A new mark, beyond what lay. -/
theorem Marks.cons {B T T' : Nat} {ds : List Deferred} {W : World} {D : Nat} (h : Marks B T ds W) (hB : B ≤ D) (hD : T ≤ D) (hT : D < T') (hk : W.heap[D]? = some (.deferred (some []))) : Marks B T' (mark D :: ds) W := by
  obtain ⟨Ds, e, hn, hd⟩ := h
  refine ⟨D :: Ds, by rw [e]; rfl, List.nodup_cons.2 ⟨fun hm => ?_, hn⟩, fun x hx => ?_⟩
  · have := (hd D hm).2.1
    omega
  · rcases List.mem_cons.1 hx with rfl | hx
    · exact ⟨hB, hT, hk⟩
    · have := (hd x hx).2.1
      exact ⟨(hd x hx).1, by omega, (hd x hx).2.2⟩
/-- THE RETURN: each mark's block is shut, nothing else turns. -/
theorem leaves_marks {F : Fence} {n : Nat} {P : Program} {fn : Func} {tmps : Array Value} {R : Ending → World → Prop} (B : Nat) : ∀ (Ds : List Nat) (W : World), Ds.Nodup → B ≤ W.heap.size → (∀ D ∈ Ds, B ≤ D ∧ W.heap[D]? = some (.deferred (some []))) →
    (∀ W', Below B W W' → ∃ v, (results fn tmps).run P W' = .ok v W' ∧ R (.returned v) W') → LeavesInM F n P fn tmps R (Ds.map mark) .returning W
  | [], W, _, _, _, h => h W (Below.refl B W)
  | D :: Ds, W, hn, hB, hD, h => by
    have h1 := hD D (List.mem_cons_self ..)
    refine ⟨by simp, .inl ⟨D, _, rfl, run_takeDeferred h1.2, ?_⟩⟩
    have hb : Below B W (W.putObj D (.deferred none)) := (Below.refl B W).grown (grownBy_putObj' W D _) hB (fun k e => by cases e; exact h1.1)
    refine leaves_marks B Ds _ (List.nodup_cons.1 hn).2 (Nat.le_trans hB hb.size) (fun D' hm => ⟨(hD D' (List.mem_cons_of_mem _ hm)).1, ?_⟩) (fun W' hW => h W' (hb.trans hW))
    have hne : D' ≠ D := fun e => (List.nodup_cons.1 hn).1 (by rw [← e]; exact hm)
    rw [World.putObj_heap_other hne]
    exact (hD D' (List.mem_cons_of_mem _ hm)).2
/-- How many rounds of the outer loop are left. -/
def roundsLeft (a : Act) (_ : World) : Nat := match a.tmps.getD 11 undef with | .int _ p => (2 - p).toNat | _ => 0
theorem roundsLeft_at {a : Act} {w : World} {p : Int} (h : a.tmps.getD 11 undef = .int .i64 p) : roundsLeft a w = (2 - p).toNat := by unfold roundsLeft; rw [h]
/-- THE RETURN BEHIND THE TAIL: true into the result's cell, the marks shut. -/
theorem setsEnd (wI w5 w W : World) (ds : List Deferred) {tmps : Array Value} (hsz : wI.heap.size + 2 ≤ w5.heap.size) (h5 : Below wI.heap.size wI w5) (hw : Below w5.heap.size w5 w) (hW : Below w.heap.size w W)
    (h8 : Boxed W (wI.heap.size + 1) 4 (.bool false)) (hM : Marks w5.heap.size w.heap.size ds w) (ht : tmps.getD 8 undef = .pointer (some ⟨wI.heap.size + 1, 0, none⟩) := by rfl) :
    bodyPostM Fence.wide 3 Tryd.prog Tryd.f6 (fun e w' => e = .returned (.bool true) ∧ Below wI.heap.size wI w') .ret { tmps := tmps, defers := ds } (W.setCell ⟨wI.heap.size + 1, 0, none⟩ (.bool true)) := by
  obtain ⟨Ds, rfl, hn, hD⟩ := (hM.below hW (Nat.le_refl _)).step (W' := W.setCell ⟨wI.heap.size + 1, 0, none⟩ (.bool true)) (fun D hD hh => Below.heap_setCell _ _ _ D (fun e => by simp only at e; rw [e] at hh; exact absurd ((show W.heap[wI.heap.size + 1]? = _ from h8).symm.trans hh) (by simp)))
  · have hs1 := hw.size
    have hs2 := hW.size
    refine leaves_marks w5.heap.size Ds _ hn (by simp only [World.size_setCell]; omega) (fun D hm => ⟨(hD D hm).1, (hD D hm).2.2⟩) (fun W' hW' => ⟨.bool true, res8 _ W' (wI.heap.size + 1) true ht ((hW'.cell (p := ⟨wI.heap.size + 1, 0, none⟩) (by simp only; omega)).trans (h8.set _).cell), rfl, ?_⟩)
    exact (((h5.trans (hw.mono (by omega))).trans (hW.mono (by omega))).setCell (p := ⟨wI.heap.size + 1, 0, none⟩) (by simp only; omega) _).trans (hW'.mono (by omega))
theorem seq_snoc {f : Nat → Int} {pre : List Int} {x : Int} (h : pre = (List.range pre.length).map f) : (pre ++ [x] = (List.range (pre ++ [x]).length).map f) ↔ x = f pre.length := by
  have e : (List.range (pre ++ [x]).length).map f = pre ++ [f pre.length] := by
    rw [List.length_append, show [x].length = 1 from rfl, List.range_succ, List.map_append, ← h]
    rfl
  rw [e]
  constructor
  · intro h
    have := List.append_cancel_left h
    simpa using this
  · intro h
    rw [h]
end Go.Proofs.YtoebcbhadcpcoaaDoor.PA
