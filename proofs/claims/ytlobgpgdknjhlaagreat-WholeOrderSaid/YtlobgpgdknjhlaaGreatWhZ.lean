/- The document's State at a circuit without operations, walked. -/
import Derived.Test.YtlobgpgdknjhlaaGreatWhY
namespace Go.Proofs.YtlobgpgdknjhlaaGreat.WH
open Go Go.RowKit Go.Proofs.YtlobgpgdknjhlaaGreat.F
set_option linter.unusedVariables false
set_option linter.unusedSimpArgs false
attribute [local go_sem] run_store_complex run_store_func
abbrev CE (n : Nat) : Value := .agg #[.int .i64 n, .int .i64 0, .slice none 0 0]
set_option maxRecDepth 100000 in
theorem rcheck0_calls (n : Nat) (hn : n ≤ 10) (w : World) : Calls Tryz.prog 8 #[.agg #[.int .i64 n, .int .i64 0, .slice none 0 0]] w fun x w' => x = .returned (.tuple #[.int .i64 0, .int .i64 0]) ∧ Below w.heap.size w w' := by
  have d1 : decide ((n : Int) < 0) = false := decide_eq_false (by omega)
  have d2 : decide ((64 : Int) < (n : Int)) = false := decide_eq_false (by omega)
  go_enter Tryz.func8, Tryz.ntmps8
  go_wp2_with fail
  go_loopw [4, 5] (fun v4 k W => v4 = .int .i64 0 ∧ k = .int .i64 0 ∧ BoxSt w #[.int .i64 n, .int .i64 0, .slice none 0 0] 31 W) (fun _ _ _ => 0)
  case atStart => exact ⟨rfl, rfl, BoxSt.start _ _ _⟩
  case round =>
    obtain ⟨rfl, rfl, hst⟩ := hrel
    have HS := Lib.hid hst
    clear hst
    have p2 := cell_at (i := 2) HS.out.blk rfl
    go_wp2_with fail
    refine bodyPost_ret (v := .tuple #[.int .i64 0, .int .i64 0]) (by simp [results, Tryz.results8, go_sem, *]) rfl ⟨rfl, HS.out.below⟩
set_option maxRecDepth 100000 in
theorem rclean0_calls (n : Nat) (hn : n ≤ 10) (w : World) : Calls Tryz.prog 35 #[.agg #[.int .i64 n, .int .i64 0, .slice none 0 0]] w fun x w' => x = .returned (.tuple #[.bool true, .int .i64 0]) ∧ Below w.heap.size w w' := by
  have g := rcheck0_calls n hn
  have HS := Lib.hid (BoxSt.start w #[.int .i64 n, .int .i64 0, .slice none 0 0] 31)
  go_enter Tryz.func35, Tryz.ntmps35
  go_wp2_with fail
  go_at_call 8
  refine (g _).mono ?_
  rintro x w1 ⟨rfl, hb⟩
  replace HS := Lib.hid (HS.out.next hb)
  clear hb g
  go_wp2_with fail
  go_loopw [6] (fun k W => k = .int .i64 0 ∧ BoxSt w #[.int .i64 n, .int .i64 0, .slice none 0 0] 31 W) (fun _ _ => 0)
  case atStart => exact ⟨rfl, HS.out⟩
  case round =>
    obtain ⟨rfl, hst⟩ := hrel
    clear HS
    have HS := Lib.hid hst
    clear hst
    have p2 := cell_at (i := 2) HS.out.blk rfl
    go_wp2_with fail
    refine bodyPost_ret (v := .tuple #[.bool true, .int .i64 0]) (by simp [results, Tryz.results35, go_sem, *]) rfl ⟨rfl, HS.out.below⟩
set_option maxRecDepth 100000 in
theorem rhalves0_calls (n : Nat) (hn : n ≤ 10) (w : World) : Calls Tryz.prog 30 #[.agg #[.int .i64 n, .int .i64 0, .slice none 0 0]] w fun x w' => x = .returned (.tuple #[.int .i64 0, .int .i64 0]) ∧ Below w.heap.size w w' := by
  have g := rcheck0_calls n hn
  have HS := Lib.hid (BoxSt.start w #[.int .i64 n, .int .i64 0, .slice none 0 0] 31)
  go_enter Tryz.func30, Tryz.ntmps30
  go_wp2_with fail
  go_at_call 8
  refine (g _).mono ?_
  rintro x w1 ⟨rfl, hb⟩
  replace HS := Lib.hid (HS.out.next hb)
  clear hb g
  go_wp2_with fail
  go_loopw [6, 7] (fun h k W => h = .int .i64 0 ∧ k = .int .i64 0 ∧ BoxSt w #[.int .i64 n, .int .i64 0, .slice none 0 0] 31 W) (fun _ _ _ => 0)
  case atStart => exact ⟨rfl, rfl, HS.out⟩
  case round =>
    obtain ⟨rfl, rfl, hst⟩ := hrel
    clear HS
    have HS := Lib.hid hst
    clear hst
    have p2 := cell_at (i := 2) HS.out.blk rfl
    go_wp2_with fail
    refine bodyPost_ret (v := .tuple #[.int .i64 0, .int .i64 0]) (by simp [results, Tryz.results30, go_sem, *]) rfl ⟨rfl, HS.out.below⟩
set_option maxRecDepth 100000 in
theorem pfault0_calls (n : Nat) (hn : n ≤ 10) (w : World) : Calls Tryz.prog 28 #[.agg #[.int .i64 n, .int .i64 0, .slice none 0 0]] w fun x w' => x = .returned (.int .i64 0) ∧ Below w.heap.size w w' := by
  have g1 := rclean0_calls n hn
  have g2 := rhalves0_calls n hn
  have HS := Lib.hid (BoxSt.start w #[.int .i64 n, .int .i64 0, .slice none 0 0] 31)
  go_enter Tryz.func28, Tryz.ntmps28
  go_wp2_with fail
  go_at_call 35
  refine (g1 _).mono ?_
  rintro x w1 ⟨rfl, hb⟩
  replace HS := Lib.hid (HS.out.next hb)
  clear hb g1
  have p0 := cell_at (i := 0) HS.out.blk rfl
  have p1 := cell_at (i := 1) HS.out.blk rfl
  have p2 := cell_at (i := 2) HS.out.blk rfl
  go_wp2_with fail
  go_at_call 30
  refine (g2 _).mono ?_
  rintro x w2 ⟨rfl, hb⟩
  replace HS := Lib.hid (HS.out.next hb)
  clear hb g2 p0 p1 p2
  go_wp2_with fail
  go_ret
  exact ⟨rfl, HS.out.below⟩
set_option maxRecDepth 100000 in
theorem pbeyond_calls (n x : Nat) (hn : n ≤ 10) (hx : x < 2 ^ n) (w : World) : Calls Tryz.prog 29 #[.int .u64 x, .int .i64 n] w fun e w' => e = .returned (.bool false) ∧ w' = w := by
  have hdiv : ((x : Int) / 2 ^ n) = 0 := by
    rw [show ((2 : Int) ^ n) = ((2 ^ n : Nat) : Int) by push_cast; rfl, ← Int.natCast_ediv, Nat.div_eq_of_lt hx]; rfl
  have d1 : decide ((n : Int) < 64) = true := decide_eq_true (by omega)
  clear hx
  go_enter Tryz.func29, Tryz.ntmps29
  go_wp2_with fail
  go_ret
  exact ⟨rfl, rfl⟩
set_option maxRecDepth 100000 in
theorem more0_calls (w : World) : Calls Tryz.prog 61 #[.agg #[.int .i64 0, .int .i64 0, .int .i64 0, .int .i64 0], .int .i64 0, .int .i64 0] w fun e w' => e = .returned (.agg #[.int .i64 1, .int .i64 0, .int .i64 0, .int .i64 0]) ∧ Below w.heap.size w w' := by
  go_enter Tryz.func61, Tryz.ntmps61
  go_wp2_with fail
  refine bodyPost_ret (v := .agg #[.int .i64 1, .int .i64 0, .int .i64 0, .int .i64 0]) (by simp [results, Tryz.results61, go_sem, *]) rfl ⟨rfl, ?_⟩
  exact (below1 w _).trans ((below1 _ _).mono (by simp))
set_option maxRecDepth 100000 in
theorem ring1_calls (w : World) : Calls Tryz.prog 32 #[.agg #[.int .i64 1, .int .i64 0, .int .i64 0, .int .i64 0]] w fun e w' => e = .returned (.agg #[.complex .f64 4607182418800017408 0, .complex .f64 0 0]) ∧ Below w.heap.size w w' := by
  have h0 : ∀ W, (convert 2 130 (.int .i64 0)).run Tryz.prog W = .ok (.float .f64 0) W := fun W => by kernel_rfl
  have h1 : ∀ W, (convert 2 130 (.int .i64 1)).run Tryz.prog W = .ok (.float .f64 4607182418800017408) W := fun W => by kernel_rfl
  have hb : ∀ (a b c d : Nat) (w : World), (Instr.build 65 #[(0, .complex .f64 a b), (1, .complex .f64 c d)]).run Tryz.prog w = .ok (.agg #[.complex .f64 a b, .complex .f64 c d]) w := fun a b c d w => run_build w 65 _ _ (by kernel_rfl)
  have hx := fun P w => run_complex (P := P) (w := w)
  go_enter Tryz.func32, Tryz.ntmps32
  go_wp2_with fail
  refine bodyPost_ret (v := .agg #[.complex .f64 4607182418800017408 0, .complex .f64 0 0]) (by simp [results, Tryz.results32, go_sem, *]) rfl ⟨rfl, ?_⟩
  exact (below1 w _).trans ((below1 _ _).mono (by simp))
theorem app_at (W : World) (o : Obj) (cs zs : Array Value) (t : TypeId) {i : Nat} {v : Value} (h : cs[i]? = some v) : (((W.alloc o).alloc (.cells (cs ++ zs) t)).drew).cell? ⟨W.heap.size + 1, i, none⟩ = some v := by
  have hi := (Array.getElem?_eq_some_iff.1 h).1
  exact cell_at (cs := cs ++ zs) (t := t) (Below.heap_some (Below.refl _ _).drew (newB (k := W.heap.size + 1) (W.alloc o) (.cells (cs ++ zs) t) (by simp))) (by rw [Array.getElem?_append_left hi]; exact h)
theorem app_below (W : World) (o o' : Obj) : Below W.heap.size W (((W.alloc o).alloc o').drew) := ((below1 _ _).trans ((below1 _ _).mono (by simp))).drew
set_option maxRecDepth 100000 in
set_option maxHeartbeats 1000000 in
theorem walk0_calls (n x : Nat) (w : World) : Calls Tryz.prog 31 #[.agg #[.int .i64 n, .int .i64 0, .slice none 0 0], .int .i64 0, .int .u64 x, .int .i64 0, .int .i64 0, .slice none 0 0, .slice none 0 0] w fun e w' => ∃ g1 c1 g2 c2, e = .returned (.tuple #[.slice (some ⟨g1, 0, none⟩) 1 c1, .slice (some ⟨g2, 0, none⟩) 1 c2]) ∧ w'.cell? ⟨g1, 0, none⟩ = some (.int .u64 x) ∧ (w'.cell? ⟨g2, 0, none⟩ = some (.int .i64 1) ∧ w'.cell? ⟨g2, 1, none⟩ = some (.int .i64 0) ∧ w'.cell? ⟨g2, 2, none⟩ = some (.int .i64 0) ∧ w'.cell? ⟨g2, 3, none⟩ = some (.int .i64 0)) ∧ Below w.heap.size w w' := by
  have g := more0_calls
  have HS := Lib.hid (BoxSt.start w #[.int .i64 n, .int .i64 0, .slice none 0 0] 31)
  go_enter Tryz.func31, Tryz.ntmps31
  go_wp2_with fail
  go_loopw [16] (fun k W => k = .int .i64 0 ∧ BoxSt w #[.int .i64 n, .int .i64 0, .slice none 0 0] 31 W) (fun _ _ => 0)
  case atStart => exact ⟨rfl, HS.out⟩
  case round =>
    obtain ⟨rfl, hst⟩ := hrel
    clear HS
    have HS := Lib.hid hst
    clear hst
    go_wp2_with fail
    have hk := app_at wr (.cells #[.int .u64 x] 23) #[.int .u64 x] (Builtin.zeroCells #[.int .u64 0] ((Question.appendCap 1 0 23).cut (wr.tape wr.drawn (Question.appendCap 1 0 23)) - 1)) 23 (i := 0) rfl
    have hbw := app_below wr (.cells #[.int .u64 x] 23) (.cells (#[.int .u64 x] ++ Builtin.zeroCells #[.int .u64 0] ((Question.appendCap 1 0 23).cut (wr.tape wr.drawn (Question.appendCap 1 0 23)) - 1)) 23)
    generalize hW : ((wr.alloc (.cells #[.int .u64 x] 23)).alloc (.cells (#[.int .u64 x] ++ Builtin.zeroCells #[.int .u64 0] ((Question.appendCap 1 0 23).cut (wr.tape wr.drawn (Question.appendCap 1 0 23)) - 1)) 23)).drew = W2 at *
    go_at_call 61
    refine (g _).mono ?_
    rintro e w2 ⟨rfl, hb⟩
    have HK := Lib.hid ((hb.cell (p := ⟨wr.heap.size + 1, 0, none⟩) (block_lt hk)).trans hk)
    have HB := Lib.hid ((HS.out.next hbw).next hb).below
    clear hk hb hbw hW HS
    go_wp2_with fail
    have HZ := Lib.hid (fun (i : Nat) (v : Value) h => app_at w2 (.cells #[.int .i64 1, .int .i64 0, .int .i64 0, .int .i64 0] 80) #[.int .i64 1, .int .i64 0, .int .i64 0, .int .i64 0] (Builtin.zeroCells #[.int .i64 0, .int .i64 0, .int .i64 0, .int .i64 0] ((Question.appendCap 1 0 80).cut (w2.tape w2.drawn (Question.appendCap 1 0 80)) - 1)) 80 (i := i) (v := v) h)
    have HZ2 := Lib.hid (app_below w2 (.cells #[.int .i64 1, .int .i64 0, .int .i64 0, .int .i64 0] 80) (.cells (#[.int .i64 1, .int .i64 0, .int .i64 0, .int .i64 0] ++ (Builtin.zeroCells #[.int .i64 0, .int .i64 0, .int .i64 0, .int .i64 0] ((Question.appendCap 1 0 80).cut (w2.tape w2.drawn (Question.appendCap 1 0 80)) - 1))) 80))
    refine bodyPost_ret (v := .tuple #[.slice (some ⟨wr.heap.size + 1, 0, none⟩) 1 ((Question.appendCap 1 0 23).cut (wr.tape wr.drawn (Question.appendCap 1 0 23))), .slice (some ⟨w2.heap.size + 1, 0, none⟩) 1 ((Question.appendCap 1 0 80).cut (w2.tape w2.drawn (Question.appendCap 1 0 80)))]) (by simp [results, Tryz.results31, go_sem, *]) rfl ⟨_, _, _, _, rfl, ?_, ⟨HZ.out 0 _ rfl, HZ.out 1 _ rfl, HZ.out 2 _ rfl, HZ.out 3 _ rfl⟩, HB.out.trans (HZ2.out.mono HB.out.size)⟩
    exact (HZ2.out.cell (p := ⟨wr.heap.size + 1, 0, none⟩) (block_lt HK.out)).trans HK.out
end Go.Proofs.YtlobgpgdknjhlaaGreat.WH
