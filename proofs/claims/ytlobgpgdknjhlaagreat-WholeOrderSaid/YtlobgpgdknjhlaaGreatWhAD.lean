/- The package sparse, at the one map that the laws try first: walked. -/
import Derived.Test.YtlobgpgdknjhlaaGreatWhAC
import Derived.Maps.RangeWalk
import Derived.Maps.OwnSet
namespace Go.Proofs.YtlobgpgdknjhlaaGreat.WH
open Go Go.RowKit Go.Maps Go.Proofs.YtlobgpgdknjhlaaGreat.F
set_option linter.unusedVariables false
set_option linter.unusedSimpArgs false
attribute [local go_sem] run_store_complex run_store_func
theorem law23 : Keyed Tryz.prog 23 := int_keyed Tryz.underlying23
abbrev ONE : Value := .agg #[.complex .f64 4607182418800017408 0, .complex .f64 0 0]
theorem one_ampV (j k : Nat) : ampV (turnR j oneR) k = .agg #[.complex .f64 (Fl (turnR j oneR).a) (Fl (turnR j oneR).b), .complex .f64 (Fl (turnR j oneR).c) (Fl (turnR j oneR).d), .int .i64 k] := rfl
set_option maxRecDepth 100000 in
theorem turned_calls (j k : Nat) (hj : j < 8) (w : World) : Calls Tryz.prog 45 #[ampV (turnR j oneR) k] w fun e w' => e = .returned (.int .i64 j) ∧ Below w.heap.size w w' := by
  have g := rorder_calls (turnR j oneR) oneR (turnR_pt oneR_pt) oneR_pt j hj rfl (powers j hj)
  have h1 := bd65
  simp only [oneR, fl_one, fl_zero] at g
  unfold ampV oneR
  generalize turnR (j : Int) ⟨1, 0, 0, 0⟩ = q at *
  generalize Fl q.a = x1 at *
  generalize Fl q.b = x2 at *
  generalize Fl q.c = x3 at *
  generalize Fl q.d = x4 at *
  go_enter Tryz.func45, Tryz.ntmps45
  go_wp2_with fail
  go_at_call 75
  refine (g _).mono ?_
  rintro e w1 ⟨rfl, hb⟩
  have HB := Lib.hid ((below1 w (.cells #[.complex .f64 x1 x2, .complex .f64 x3 x4, .int .i64 k] 103)).trans (hb.mono (below1 w _).size))
  go_wp2_with fail
  go_ret
  exact ⟨rfl, HB.out⟩
set_option maxRecDepth 100000 in
theorem picked0_calls (bq cq : Nat) (w : World) (hq : w.cell? ⟨bq, 0, none⟩ = some (.int .i64 0)) : Calls Tryz.prog 43 #[.int .u64 0, .slice (some ⟨bq, 0, none⟩) 1 cq] w fun e w' => e = .returned (.int .i64 0) ∧ w' = w := by
  have hidx : ∀ W, (Instr.indexAt 22 (.slice (some ⟨bq, 0, none⟩) 1 cq) (.int .i64 0)).run Tryz.prog W = .ok (.pointer (some ⟨bq, 0, none⟩)) W := fun W => by
    have hs : ∀ W, (Go.sizeOf (Tryz.prog.elem 22)).run Tryz.prog W = .ok 1 W := fun _ => by kernel_rfl
    rw [run_indexAt_slice _ 22 _ _ _ _ _ (by kernel_rfl), if_pos ⟨by decide, by decide⟩, hs]
    rfl
  go_enter Tryz.func43, Tryz.ntmps43
  go_wp2_with fail
  go_loopw [5, 6, 7, 10] (fun v _ _ k W => ∃ j : Nat, j ≤ 1 ∧ k = .int .i64 j ∧ v = .int .i64 0 ∧ W = w) (fun _ _ _ k _ => 1 - (intOf k).toNat)
  case atStart => exact ⟨0, by decide, rfl, rfl, rfl⟩
  case round =>
    obtain ⟨j, hj, rfl, rfl, rfl⟩ := hrel
    have hj2 : j = 0 ∨ j = 1 := by omega
    rcases hj2 with rfl | rfl
    · have hb1 : Go.bits .and .u64 0 1 = 0 := by decide +kernel
      have hb2 : Go.bits .or .i64 0 0 = 0 := by decide +kernel
      go_wp2_with fail
      go_roundw
      case rel => exact ⟨1, by decide, rfl, by first | rfl | trivial, by first | rfl | trivial⟩
      case measure => simp [intOf]
    · go_wp2_with fail
      go_ret
      exact ⟨rfl, rfl⟩
set_option maxRecDepth 100000 in
theorem laid0_calls (bq cq row : Nat) (hrow : row = 0 ∨ row = 1) (w : World) (hq : w.cell? ⟨bq, 0, none⟩ = some (.int .i64 0)) : Calls Tryz.prog 47 #[.int .u64 0, .slice (some ⟨bq, 0, none⟩) 1 cq, .int .i64 row] w fun e w' => e = .returned (.int .u64 row) ∧ ∃ n, w' = w.drewN n := by
  have hidx : ∀ W, (Instr.indexAt 22 (.slice (some ⟨bq, 0, none⟩) 1 cq) (.int .i64 0)).run Tryz.prog W = .ok (.pointer (some ⟨bq, 0, none⟩)) W := fun W => by
    have hs : ∀ W, (Go.sizeOf (Tryz.prog.elem 22)).run Tryz.prog W = .ok 1 W := fun _ => by kernel_rfl
    rw [run_indexAt_slice _ 22 _ _ _ _ _ (by kernel_rfl), if_pos ⟨by decide, by decide⟩, hs]
    rfl
  have hb1 : Go.bits .andNot .u64 0 1 = 0 := by decide +kernel
  have hb2 : Go.bits .and .i64 0 1 = 0 := by decide +kernel
  have hb3 : Go.bits .and .i64 1 1 = 1 := by decide +kernel
  have hb4 : Go.bits .or .u64 0 0 = 0 := by decide +kernel
  have hb5 : Go.bits .or .u64 0 1 = 1 := by decide +kernel
  rcases hrow with rfl | rfl
  all_goals (
    go_enter Tryz.func47, Tryz.ntmps47
    go_wp2_with fail)
  · go_loopw [0, 7, 8, 11] (fun v _ _ k W => ∃ j : Nat, j ≤ 1 ∧ k = .int .i64 j ∧ v = .int .u64 0 ∧ ∃ n, W = w.drewN n) (fun _ _ _ k _ => 1 - (intOf k).toNat)
    case atStart => exact ⟨0, by decide, rfl, rfl, 0, rfl⟩
    case round =>
      obtain ⟨j, hj, rfl, rfl, n, rfl⟩ := hrel
      have hj2 : j = 0 ∨ j = 1 := by omega
      rcases hj2 with rfl | rfl
      · go_wp2_with fail
        go_quiet (fail)
        go_wp2_with fail
        go_roundw
        case rel => exact ⟨1, by decide, rfl, by first | rfl | trivial, _, rfl⟩
        case measure => simp [intOf]
      · go_wp2_with fail
        go_ret
        exact ⟨rfl, _, rfl⟩
  · go_loopw [0, 7, 8, 11] (fun v _ _ k W => ∃ j : Nat, j ≤ 1 ∧ k = .int .i64 j ∧ v = .int .u64 j ∧ ∃ n, W = w.drewN n) (fun _ _ _ k _ => 1 - (intOf k).toNat)
    case atStart => exact ⟨0, by decide, rfl, rfl, 0, rfl⟩
    case round =>
      obtain ⟨j, hj, rfl, rfl, n, rfl⟩ := hrel
      have hj2 : j = 0 ∨ j = 1 := by omega
      rcases hj2 with rfl | rfl
      · go_wp2_with fail
        go_quiet (fail)
        go_wp2_with fail
        go_roundw
        case rel => exact ⟨1, by decide, rfl, by first | rfl | trivial, _, rfl⟩
        case measure => simp [intOf]
      · go_wp2_with fail
        go_ret
        exact ⟨rfl, _, rfl⟩
set_option maxRecDepth 100000 in
theorem sfault0_calls (bm bq cq : Nat) (hcq : cq ≤ 9223372036854775807) (w : World) (hm : w.cell? ⟨bm, 0, none⟩ = some (.int .i64 1)) (hq : w.cell? ⟨bq, 0, none⟩ = some (.int .i64 0)) : Calls Tryz.prog 40 #[.pointer (some ⟨bm, 0, none⟩), .string ⟨#[104]⟩, .slice (some ⟨bq, 0, none⟩) 1 cq] w fun e w' => e = .returned (.int .i64 0) ∧ Below w.heap.size w w' := by
  have g := arity_calls e_h (by simp [gates]) w
  simp only [e_h] at g
  have hidx : ∀ W, (Instr.indexAt 22 (.slice (some ⟨bq, 0, none⟩) 1 cq) (.int .i64 0)).run Tryz.prog W = .ok (.pointer (some ⟨bq, 0, none⟩)) W := fun W => by
    have hs : ∀ W, (Go.sizeOf (Tryz.prog.elem 22)).run Tryz.prog W = .ok 1 W := fun _ => by kernel_rfl
    rw [run_indexAt_slice _ 22 _ _ _ _ _ (by kernel_rfl), if_pos ⟨by decide, by decide⟩, hs]
    rfl
  go_enter Tryz.func40, Tryz.ntmps40
  go_wp2_with fail
  go_at_call 69
  refine g.mono ?_
  rintro e w1 ⟨rfl, hb⟩
  have HB := Lib.hid hb
  replace hm := (hb.cell (p := ⟨bm, 0, none⟩) (block_lt hm)).trans hm
  replace hq := (hb.cell (p := ⟨bq, 0, none⟩) (block_lt hq)).trans hq
  clear hb g
  go_wp2_with fail
  go_loopw [9, 22] (fun _ k W => (k = .int .i64 0 ∨ k = .int .i64 1) ∧ W = w1) (fun _ k _ => 1 - (intOf k).toNat)
  case atStart => exact ⟨.inl rfl, rfl⟩
  case round =>
    obtain ⟨hk, rfl⟩ := hrel
    rcases hk with rfl | rfl
    · go_wp2_with fail
      go_roundw
      case rel => exact ⟨.inr rfl, by first | rfl | trivial⟩
      case measure => simp [intOf]
    · go_wp2_with fail
      go_loopw [10, 11, 39] (fun _ _ k W => (k = .int .i64 0 ∨ k = .int .i64 1) ∧ W = wr) (fun _ _ k _ => 1 - (intOf k).toNat)
      case atStart => exact ⟨.inl rfl, rfl⟩
      case round =>
        obtain ⟨hk, rfl⟩ := hrel
        rcases hk with rfl | rfl
        · have g70 := contains_calls (some ⟨bq, 0, none⟩) cq [] 0 wr ⟨Nat.zero_le _, hcq, .inl rfl⟩ (fun i h => absurd h (Nat.not_lt_zero _))
          go_wp2_with fail
          go_at_call 70
          refine g70.mono ?_
          rintro e w2 ⟨rfl, rfl⟩
          go_wp2_with fail
          go_roundw
          case rel => exact ⟨.inr rfl, by first | rfl | trivial⟩
          case measure => simp [intOf]
        · go_wp2_with fail
          go_ret
          exact ⟨rfl, HB.out⟩
/-- The map's data, as a datum: each key with its element. -/
abbrev UK (k : Nat) : Lit := .int .u64 k
abbrev D1 : DataW Value := (DataW.map [] : DataW Value).put (UK 0) (.held ONE)
abbrev D2 : DataW Value := ((DataW.map [] : DataW Value).put (UK 0) (.held ONE)).put (UK 1) (.held ONE)
theorem uk_key (k : Nat) (hk : k < 2 ^ 64) : keyOf Tryz.prog 23 (.int .u64 k) = some (UK k) := keyOf_int_mk Tryz.underlying23 (by simp [Lit.wf, IntKind.min, IntKind.max, IntKind.signed, IntKind.bits]; omega)
theorem But.grown {b : Nat} {W W' : World} (h : W.grownBy W' (some b)) : But b W W' := ⟨h.os, h.tape, h.output, h.size, fun k hk hne => h.block k hk (fun e => hne (Option.some.inj e))⟩
theorem eq65z (r : Rg) (h : r.Pt) (W : World) : (binOp .eql 65 (.agg #[.complex .f64 (Fl r.a) (Fl r.b), .complex .f64 (Fl r.c) (Fl r.d)]) (.agg #[.complex .f64 0 0, .complex .f64 0 0])).run Tryz.prog W = .ok (.bool (decide (r = nilR))) W := eqlR r nilR h nilR_pt W
theorem eq_one (W : World) : (binOp .eql 65 ONE (.agg #[.complex .f64 0 0, .complex .f64 0 0])).run Tryz.prog W = .ok (.bool false) W := by
  have h := eqlR oneR nilR oneR_pt nilR_pt W
  have e : decide (oneR = nilR) = false := by decide
  rw [e] at h
  simpa [oneR, nilR, fl_one, fl_zero] using h
set_option maxRecDepth 100000 in
set_option maxHeartbeats 1000000 in
theorem set1_calls (b n k : Nat) (hk : k < 2 ^ 64) (hn : n < 100) (D : DataW Value) (w : World) (h : w.ownsMap Tryz.prog 23 rd b n D) : Calls Tryz.prog 39 #[.map (some b), .int .u64 k, ONE] w fun e w' => e = .returned (.tuple #[]) ∧ w'.ownsMap Tryz.prog 23 rd b (n + 1) (D.put (UK k) (.held ONE)) ∧ But b w w' := by
  have HO := Lib.hid h
  have heq := eq_one
  clear h
  go_enter Tryz.func39, Tryz.ntmps39
  go_wp2_with (refine wpList_mapUpdate_own _ rfl (.tmp 12) (.tmp 13) (.tmp 14) 91 rfl 23 65 law23 Tryz.underlying91 rd b n D rfl (HO.out.alloc _ |>.alloc _) (by unfold maxLen; omega) _ _ (UK k) rfl rfl (uk_key k hk) (.held ONE) [] rfl ?_)
  intro w1 h1 hg
  have H1 := Lib.hid (And.intro h1 (But.grown hg))
  clear h1 hg
  go_wp2_with fail
  go_end0
  exact ⟨rfl, H1.out.1, ((But.of (below1 _ _)).trans (But.of (below1 _ _))).trans H1.out.2⟩
theorem wpList_insert91 {w : World} {ops : Array Oper} {rest : List Oper} {o : Oper} {a : Act} {Q : Exit → Act → World → Prop}
    (hg : o.guard = none) (m x v : Operand) (hop : o.op = Op.insert 91 m x v) (b n : Nat) (D : DataW Value)
    (hm : a.eval m = .map (some b)) (hown : w.ownsMap Tryz.prog 23 rd b n D) (hn : n < maxLen) (k : Nat) (hk : k < 2 ^ 64) (val : Value) (hx : a.eval x = .int .u64 k) (hv : a.eval v = val)
    (hK : ∀ w', w'.ownsMap Tryz.prog 23 rd b (n + 1) (D.put (UK k) (.held val)) → w.grownBy w' (some b) → wpList Tryz.prog ops Q rest (a.put o.dst undef) w') :
    wpList Tryz.prog ops Q (o :: rest) a w := by
  refine wpList_plain hg fun K' hK' => ?_
  obtain ⟨w', hrun, r1, r2⟩ := hown.update law23 Tryz.underlying91 hn (key := .int .u64 k) (val := val) (kl := UK k) (d := .held val) (ps := []) (uk_key k hk) rfl
  unfold Oper.wp
  simp [execOp, hop, hm, hx, hv, hrun, Result.andThen]
  exact hK' _ _ (hK w' r1 r2)
theorem made_at (W : World) (k : Nat) (h : k = W.heap.size) : (W.alloc (.map #[] 0)).ownsMap Tryz.prog 23 rd k 0 (.map []) := h ▸ World.ownsMap_made W Tryz.prog 23 rd
/-- A map behind its pointer. -/
structure Spr (W : World) (bm b n k cnt : Nat) (D : DataW Value) : Prop where
  box : W.heap[bm]? = some (.cells #[.int .i64 n, .int .i64 k, .map (some b)] 93)
  own : W.ownsMap Tryz.prog 23 rd b cnt D
theorem bd93 (a : Int) (v : Option Nat) (w : World) : (Instr.build 93 #[(0, .int .i64 a), (2, .map v)]).run Tryz.prog w = .ok (.agg #[.int .i64 a, .int .i64 0, .map v]) w := run_build w 93 _ _ (by kernel_rfl)
set_option maxRecDepth 100000 in
set_option maxHeartbeats 1000000 in
theorem new1_calls (w : World) : Calls Tryz.prog 23 #[.int .i64 1] w fun e w' => ∃ bm b, e = .returned (.tuple #[.pointer (some ⟨bm, 0, none⟩), .int .i64 0]) ∧ Spr w' bm b 1 0 1 D1 ∧ w.heap.size ≤ bm ∧ Below w.heap.size w w' := by
  have g := zero_calls 1 (by decide)
  have h1 := bd65
  have h2 := bd93
  have hmk : ∀ w, Sem.run Tryz.prog (Instr.makeMap 91 none) w = .ok (.map (some w.heap.size)) (w.alloc (.map #[] 0)) := fun w => rfl
  go_enter Tryz.func23, Tryz.ntmps23
  go_wp2_with fail
  go_at_call 21
  refine (g _).mono ?_
  rintro e w1 ⟨B, rfl, ho, hlo, hb⟩
  have HB := Lib.hid hb
  clear ho hlo hb
  go_wp2_with (refine wpList_insert91 rfl (.tmp 15) (.const (.int .u64 0)) (.tmp 16) rfl _ 0 (.map []) rfl (made_at _ _ (by simp)) (by decide) 0 (by decide) ONE rfl rfl ?_)
  intro w2 h3 hg
  have HO := Lib.hid h3
  have HG := Lib.hid hg
  clear h3 hg
  go_wp2_with fail
  have HBW : Hid (Below w.heap.size w w2) := Lib.hid (by
    have h9 := HB.out.size
    exact (But.grown HG.out).above ((HB.out.alloc h9 _).alloc (by simp; omega) _) (by omega))
  refine bodyPost_ret (v := .tuple #[.pointer (some ⟨w2.heap.size, 0, none⟩), .int .i64 0]) (by simp [results, Tryz.results23, go_sem, *]) rfl ⟨w2.heap.size, w1.heap.size + 1, rfl, ⟨newB _ _ rfl, HO.out.alloc _⟩, HBW.out.size, HBW.out.alloc HBW.out.size _⟩
end Go.Proofs.YtlobgpgdknjhlaaGreat.WH
