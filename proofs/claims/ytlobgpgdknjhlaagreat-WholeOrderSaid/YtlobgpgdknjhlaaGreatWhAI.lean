/- slices.Sort at two elements: walked. -/
import Derived.Test.YtlobgpgdknjhlaaGreatWhAH
namespace Go.Proofs.YtlobgpgdknjhlaaGreat.WH
open Go Go.RowKit Go.Maps Go.Proofs.YtlobgpgdknjhlaaGreat.F
set_option linter.unusedVariables false
set_option linter.unusedSimpArgs false
set_option maxRecDepth 100000 in
theorem isnan_calls (x : Int) (w : World) : Calls Tryz.prog 143 #[.int .u64 x] w fun e w' => e = .returned (.bool false) ∧ w' = w := by
  have h : (x != x) = false := by simp
  go_enter Tryz.func143, Tryz.ntmps143
  go_wp2_with fail
  go_ret
  exact ⟨rfl, rfl⟩
set_option maxRecDepth 100000 in
theorem less_calls (x y : Int) (w : World) : Calls Tryz.prog 126 #[.int .u64 x, .int .u64 y] w fun e w' => e = .returned (.bool (decide (x < y))) ∧ w' = w := by
  have g := isnan_calls x
  go_enter Tryz.func126, Tryz.ntmps126
  go_wp2_with (go_at_call 143; refine (g _).mono ?_; rintro e w' ⟨rfl, rfl⟩)
  go_ret
  exact ⟨rfl, rfl⟩
set_option maxRecDepth 100000 in
theorem len64_calls (w : World) : Calls Tryz.prog 130 #[.int .u64 2] w fun e w' => e = .returned (.int .i64 2) ∧ w' = w := by
  go_enter Tryz.func130, Tryz.ntmps130
  go_wp2_with fail
  go_ret
  refine ⟨?_, rfl⟩
  kernel_rfl
set_option maxRecDepth 100000 in
theorem len_calls (w : World) : Calls Tryz.prog 107 #[.int .u64 2] w fun e w' => e = .returned (.int .i64 2) ∧ w' = w := by
  go_enter Tryz.func107, Tryz.ntmps107
  go_wp2_with (go_at_call 130; refine (len64_calls _).mono ?_; rintro e w' ⟨rfl, rfl⟩)
  go_ret
  exact ⟨rfl, rfl⟩
/-- Two elements in a block of their own. -/
structure S2 (w : World) (g : Nat) (x y : Int) (W : World) : Prop where
  but : But g w W
  c0 : W.cell? ⟨g, 0, none⟩ = some (.int .u64 x)
  c1 : W.cell? ⟨g, 1, none⟩ = some (.int .u64 y)
  fr : ∀ i, W.frozen? ⟨g, i, none⟩ = false
  wx : (Lit.int .u64 x).wf = true
  wy : (Lit.int .u64 y).wf = true
theorem S2.drewN {w W : World} {g : Nat} {x y : Int} (h : S2 w g x y W) (n : Nat) : S2 w g x y (W.drewN n) := ⟨h.but.trans (But.of (belowD (Below.refl _ _) n)), h.c0, h.c1, h.fr, h.wx, h.wy⟩
theorem idx74 (g c i : Nat) (hi : i < 2) (W : World) : (Instr.indexAt 74 (.slice (some ⟨g, 0, none⟩) 2 c) (.int .i64 i)).run Tryz.prog W = .ok (.pointer (some ⟨g, i, none⟩)) W := by
  have hs : ∀ W, (Go.sizeOf (Tryz.prog.elem 74)).run Tryz.prog W = .ok 1 W := fun _ => by kernel_rfl
  rw [run_indexAt_slice _ 74 _ _ _ _ _ (by kernel_rfl), if_pos ⟨by omega, by exact_mod_cast hi⟩, hs]
  simp [Result.andThen, Addr.add]
  try omega
theorem S2.swap2 {w W : World} {g : Nat} {x y : Int} (h : S2 w g x y W) : S2 w g y x ((W.drew.setCell ⟨g, 0, none⟩ (.int .u64 y)).setCell ⟨g, 1, none⟩ (.int .u64 x)) := by
  have h1 := h.drewN 1
  refine ⟨(h1.but.setCell (.inl rfl) _).setCell (.inl rfl) _, ?_, ?_, ?_, h.wy, h.wx⟩
  · rw [World.cell?_setCell_other _ _ _ _ (by simp), World.cell?_setCell_same (u := .int .u64 x)]
    exact h1.c0
  · rw [World.cell?_setCell_same (u := .int .u64 y)]
    rw [World.cell?_setCell_other _ _ _ _ (by simp)]
    exact h1.c1
  · intro i
    simp [h.fr]
theorem S2.swap {w W : World} {g : Nat} {x y : Int} (h : S2 w g x y W) (n : Nat) : S2 w g y x (((W.drewN n).setCell ⟨g, 1, none⟩ (.int .u64 x)).setCell ⟨g, 0, none⟩ (.int .u64 y)) := by
  have h1 := h.drewN n
  refine ⟨(h1.but.setCell (.inl rfl) _).setCell (.inl rfl) _, ?_, ?_, ?_, h.wy, h.wx⟩
  · rw [World.cell?_setCell_same (u := .int .u64 x)]
    rw [World.cell?_setCell_other _ _ _ _ (by simp)]
    exact h1.c0
  · rw [World.cell?_setCell_other _ _ _ _ (by simp), World.cell?_setCell_same (u := .int .u64 y)]
    exact h1.c1
  · intro i
    simp [h.fr]
set_option maxRecDepth 100000 in
set_option maxHeartbeats 2000000 in
theorem ins2_calls (g c : Nat) (x y : Int) (hwx : (Lit.int .u64 x).wf = true) (hwy : (Lit.int .u64 y).wf = true) (w : World) (c0 : w.cell? ⟨g, 0, none⟩ = some (.int .u64 x)) (c1 : w.cell? ⟨g, 1, none⟩ = some (.int .u64 y)) (fr : ∀ i, w.frozen? ⟨g, i, none⟩ = false) :
    Calls Tryz.prog 120 #[.slice (some ⟨g, 0, none⟩) 2 c, .int .i64 0, .int .i64 2] w fun e w' => e = .returned (.tuple #[]) ∧ ∃ x' y', S2 w g x' y' w' := by
  have HS : Hid (S2 w g x y w) := Lib.hid ⟨But.of (Below.refl _ _), c0, c1, fr, hwx, hwy⟩
  have hi0 : ∀ W, (Instr.indexAt 74 (.slice (some ⟨g, 0, none⟩) 2 c) (.int .i64 0)).run Tryz.prog W = .ok (.pointer (some ⟨g, 0, none⟩)) W := idx74 g c 0 (by decide)
  have hi1 : ∀ W, (Instr.indexAt 74 (.slice (some ⟨g, 0, none⟩) 2 c) (.int .i64 1)).run Tryz.prog W = .ok (.pointer (some ⟨g, 1, none⟩)) W := idx74 g c 1 (by decide)
  clear c0 c1 fr
  go_enter Tryz.func120, Tryz.ntmps120
  go_wp2_with fail
  go_loopw [6, 7] (fun k _ W => (k = .int .i64 1 ∨ k = .int .i64 2) ∧ ∃ x y, S2 w g x y W) (fun k _ _ => 2 - (intOf k).toNat)
  case atStart => exact ⟨.inl rfl, x, y, HS.out⟩
  case round =>
    obtain ⟨hk, x, y, hst⟩ := hrel
    clear HS
    have HS := Lib.hid hst
    clear hst
    rcases hk with rfl | rfl
    · go_wp2_with fail
      go_loopw [7] (fun j W => (j = .int .i64 1 ∨ j = .int .i64 0) ∧ ∃ x y, S2 w g x y W) (fun j _ => (intOf j).toNat)
      case atStart => exact ⟨.inl rfl, x, y, HS.out⟩
      case round =>
        obtain ⟨hk, x, y, hst⟩ := hrel
        clear HS
        have HS := Lib.hid hst
        clear hst
        have c0 := HS.out.c0
        have c1 := HS.out.c1
        have fr := HS.out.fr
        rcases hk with rfl | rfl
        · go_wp2_with fail
          go_quiet (first | (go_at_call 126; refine Calls.quiet_of_same (less_calls _ _ _)))
          have HS2 := Lib.hid (HS.out.drewN nq)
          clear HS c0 c1 fr
          generalize wr.drewN nq = W2 at *
          have c0 := HS2.out.c0
          have c1 := HS2.out.c1
          have fr := HS2.out.fr
          by_cases hyx : y < x
          · have d : decide (y < x) = true := decide_eq_true hyx
            rw [d]
            clear hyx d
            have HSW := Lib.hid (HS2.out.swap 0)
            have HSW1 := Lib.hid (HS2.out.swap 1)
            go_wp2_with fail
            go_region
            all_goals (
              go_wp2_with fail
              go_roundw
              case rel => first | exact ⟨.inr rfl, _, _, HSW1.out⟩ | exact ⟨.inr rfl, _, _, HSW.out⟩ | exact ⟨.inr rfl, _, _, S2.swap2 HS2.out⟩
              case measure => simp [intOf])
          · have d : decide (y < x) = false := decide_eq_false hyx
            rw [d]
            go_wp2_with fail
            go_roundw
            case rel => exact ⟨.inr rfl, _, _, HS2.out⟩
            case measure => simp [intOf]
        · go_wp2_with fail
          go_quiet (fail)
          have HS2 := Lib.hid (HS.out.drewN nq)
          clear HS c0 c1 fr
          generalize wr.drewN nq = W2 at *
          go_wp2_with fail
          go_roundw
          case rel => exact ⟨.inr rfl, _, _, HS2.out⟩
          case measure => simp [intOf]
    · go_wp2_with fail
      go_end0
      exact ⟨rfl, x, y, HS.out⟩
set_option maxRecDepth 100000 in
set_option maxHeartbeats 1000000 in
theorem pdq2_calls (g c : Nat) (l : Int) (x y : Int) (hwx : (Lit.int .u64 x).wf = true) (hwy : (Lit.int .u64 y).wf = true) (w : World) (c0 : w.cell? ⟨g, 0, none⟩ = some (.int .u64 x)) (c1 : w.cell? ⟨g, 1, none⟩ = some (.int .u64 y)) (fr : ∀ i, w.frozen? ⟨g, i, none⟩ = false) :
    Calls Tryz.prog 106 #[.slice (some ⟨g, 0, none⟩) 2 c, .int .i64 0, .int .i64 2, .int .i64 l] w fun e w' => e = .returned (.tuple #[]) ∧ ∃ x' y', S2 w g x' y' w' := by
  have g120 := ins2_calls g c x y hwx hwy w c0 c1 fr
  clear c0 c1 fr
  go_enter Tryz.func106, Tryz.ntmps106
  go_wp2_with fail
  go_loopw [1, 2, 3, 8, 9, 10, 11, 12, 13, 14, 15, 16, 17, 18] (fun a b _ _ _ _ _ _ _ _ _ _ _ _ W => a = .int .i64 0 ∧ b = .int .i64 2 ∧ W = w) (fun _ _ _ _ _ _ _ _ _ _ _ _ _ _ _ => 0)
  case atStart => exact ⟨rfl, rfl, rfl⟩
  case round =>
    obtain ⟨rfl, rfl, rfl⟩ := hrel
    go_wp2_with fail
    go_at_call 120
    refine g120.mono ?_
    rintro e w1 ⟨rfl, x', y', h⟩
    have H := Lib.hid h
    clear h
    go_wp2_with fail
    refine bodyPost_ret (results_none rfl _ _ _) rfl ⟨rfl, x', y', H.out⟩
set_option maxRecDepth 100000 in
theorem sort2_calls (g c : Nat) (x y : Int) (hwx : (Lit.int .u64 x).wf = true) (hwy : (Lit.int .u64 y).wf = true) (w : World) (c0 : w.cell? ⟨g, 0, none⟩ = some (.int .u64 x)) (c1 : w.cell? ⟨g, 1, none⟩ = some (.int .u64 y)) (fr : ∀ i, w.frozen? ⟨g, i, none⟩ = false) :
    Calls Tryz.prog 84 #[.slice (some ⟨g, 0, none⟩) 2 c] w fun e w' => e = .returned (.tuple #[]) ∧ ∃ x' y', S2 w g x' y' w' := by
  have g106 := fun l => pdq2_calls g c l x y hwx hwy w c0 c1 fr
  clear c0 c1 fr
  go_enter Tryz.func84, Tryz.ntmps84
  go_wp2_with (go_at_call 107; refine (len_calls _).mono ?_; rintro e w' ⟨rfl, rfl⟩)
  go_at_call 106
  refine (g106 _).mono ?_
  rintro e w1 ⟨rfl, x', y', h⟩
  have H := Lib.hid h
  clear h
  go_wp2_with fail
  go_end0
  exact ⟨rfl, x', y', H.out⟩
set_option maxRecDepth 100000 in
theorem collect_calls (Bm b nn : Nat) (w : World) (hm : w.cell? ⟨Bm, 0, none⟩ = some (.map (some b))) (hown : w.ownsMap Tryz.prog 23 rd b nn D2) :
    Calls Tryz.prog 83 #[.func (.func 85) #[] #[.pointer (some ⟨Bm, 0, none⟩)]] w fun e w' => ∃ (v : Value) (xs : List Int), e = .returned v ∧ (xs.length = 2 ∧ ∀ x ∈ xs, (Lit.int .u64 x).wf = true) ∧ w'.ownsRow w.heap.size 23 1 v 2 (xs.map encU) ∧ Below w.heap.size w w' := by
  have g := appendseq_calls Bm b nn w hm hown
  clear hm hown
  go_enter Tryz.func83, Tryz.ntmps83
  go_wp2_with fail
  go_at_call 105
  refine g.mono ?_
  rintro e w1 ⟨v, xs, rfl, hl, ho, hb⟩
  have H := Lib.hid (And.intro hl (And.intro ho hb))
  clear hl ho hb
  go_wp2_with fail
  go_ret
  exact ⟨v, xs, rfl, H.out.1, H.out.2.1, H.out.2.2⟩
set_option maxRecDepth 100000 in
set_option maxHeartbeats 1000000 in
theorem sorted_calls (Bm b nn : Nat) (w : World) (hm : w.cell? ⟨Bm, 0, none⟩ = some (.map (some b))) (hown : w.ownsMap Tryz.prog 23 rd b nn D2) :
    Calls Tryz.prog 57 #[.func (.func 85) #[] #[.pointer (some ⟨Bm, 0, none⟩)]] w fun e w' => ∃ g c x y, e = .returned (.slice (some ⟨g, 0, none⟩) 2 c) ∧ ((Lit.int .u64 x).wf = true ∧ (Lit.int .u64 y).wf = true) ∧ w'.cell? ⟨g, 0, none⟩ = some (.int .u64 x) ∧ w'.cell? ⟨g, 1, none⟩ = some (.int .u64 y) ∧ Below w.heap.size w w' := by
  have g := collect_calls Bm b nn w hm hown
  clear hm hown
  go_enter Tryz.func57, Tryz.ntmps57
  go_wp2_with fail
  go_at_call 83
  refine g.mono ?_
  rintro e w1 ⟨v, xs, rfl, hl, ho, hb⟩
  obtain ⟨x, y, rfl⟩ : ∃ x y, xs = [x, y] := by
    match xs, hl.1 with
    | [x, y], _ => exact ⟨x, y, rfl⟩
  obtain ⟨gb, cap, cur, rfl, hge, hg, r1, r2, r3, r4⟩ : ∃ g cap cur, v = .slice (some ⟨g, 0, none⟩) 2 cap ∧ w.heap.size ≤ g ∧ w1.heap[g]? = some (.cells cur 23 (0, 0)) ∧ 2 ≤ cap ∧ cap ≤ maxLen ∧ cur.size = cap * 1 ∧ cur.toList.take (2 * 1) = [x, y].map encU := by
    rcases ho.2 with ⟨_, h0⟩ | h
    · omega
    · exact h
  have e0 : cur[0]? = some (.int .u64 x) := by
    have h := congrArg (fun l : List Value => l[0]?) r4
    simpa using h
  have e1 : cur[1]? = some (.int .u64 y) := by
    have h := congrArg (fun l : List Value => l[1]?) r4
    simpa using h
  have g84 := sort2_calls gb cap x y (hl.2 x (by simp)) (hl.2 y (by simp)) w1 (cell_at hg e0) (cell_at hg e1) (fun i => free_at hg)
  have HB := Lib.hid hb
  have HGE := Lib.hid hge
  clear g hb ho hl hg r1 r2 r3 r4 e0 e1 hge
  go_wp2_with fail
  go_at_call 84
  refine g84.mono ?_
  rintro e w2 ⟨rfl, x', y', h⟩
  have H := Lib.hid h
  clear h g84
  go_wp2_with fail
  go_ret
  exact ⟨gb, cap, x', y', rfl, ⟨H.out.wx, H.out.wy⟩, H.out.c0, H.out.c1, H.out.but.above HB.out HGE.out⟩
set_option maxRecDepth 100000 in
theorem keys_calls (b : Nat) (w : World) : Calls Tryz.prog 58 #[.map (some b)] w fun e w' => ∃ Bm, e = .returned (.func (.func 85) #[] #[.pointer (some ⟨Bm, 0, none⟩)]) ∧ w'.cell? ⟨Bm, 0, none⟩ = some (.map (some b)) ∧ Below w.heap.size w w' := by
  have hmf : ∀ (q : Value) (w : World), (Instr.makeFunc (.func 85) #[] #[q]).run Tryz.prog w = .ok (.func (.func 85) #[] #[q]) w := fun q w => rfl
  go_enter Tryz.func58, Tryz.ntmps58
  go_wp2_with fail
  go_ret
  exact ⟨_, rfl, cell_at (newB _ _ rfl) rfl, below1 _ _⟩
end Go.Proofs.YtlobgpgdknjhlaaGreat.WH
