/- dense.formed: walked. -/
import Derived.Test.YtlobgpgdknjhlaaGreatWhO
import Derived.Deep.RegionWith
import Derived.Deep.CutRange
namespace Go.Proofs.YtlobgpgdknjhlaaGreat.WH
open Go Go.RowKit Go.Proofs.YtlobgpgdknjhlaaGreat.F
set_option linter.unusedVariables false
set_option linter.unusedSimpArgs false
attribute [local go_sem] run_store_complex run_store_func
theorem eql65 (a b c d a' b' c' d' : Nat) (W : World) : (binOp .eql 65 (.agg #[.complex .f64 a b, .complex .f64 c d]) (.agg #[.complex .f64 a' b', .complex .f64 c' d'])).run Tryz.prog W = .ok (.bool ((Op.floatEq .f64 a a' && Op.floatEq .f64 b b') && (Op.floatEq .f64 c c' && Op.floatEq .f64 d d'))) W := by
  have hS : Tryz.prog.underlying 65 = some (.struct (Tryz.prog.fieldsOf 65)) := by kernel_rfl
  have hp : Tryz.prog.stoodInHeld 65 = false := by kernel_rfl
  have h63 := eq63
  rw [run_eql_struct, show (10000 : Nat) = 9999 + 1 from rfl, run_equalIn_agg W 9999 65 _ _ hS hp]
  simp only [Program.fieldsOf, Tryz.underlying65]
  go_simp
  cases Op.floatEq .f64 a a' <;> cases Op.floatEq .f64 b b' <;> cases Op.floatEq .f64 c c' <;> cases Op.floatEq .f64 d d' <;> simp
theorem guard65 : Tryz.prog.eqGuardType Tryz.prog.depth 65 = false := by kernel_rfl
theorem eqlR (r s : Rg) (h : r.Pt) (h' : s.Pt) (W : World) : (binOp .eql 65 (.agg #[.complex .f64 (Fl r.a) (Fl r.b), .complex .f64 (Fl r.c) (Fl r.d)]) (.agg #[.complex .f64 (Fl s.a) (Fl s.b), .complex .f64 (Fl s.c) (Fl s.d)])).run Tryz.prog W = .ok (.bool (decide (r = s))) W := by
  rw [eql65, fl_eqb h.a h'.a, fl_eqb h.b h'.b, fl_eqb h.c h'.c, fl_eqb h.d h'.d]
  congr 2
  obtain ⟨a, b, c, d⟩ := r
  obtain ⟨a', b', c', d'⟩ := s
  simp only [Rg.mk.injEq]
  by_cases h1 : a = a' <;> by_cases h2 : b = b' <;> by_cases h3 : c = c' <;> by_cases h4 : d = d' <;> simp [h1, h2, h3, h4]
def formK : Nat → List Rg → Nat × List Rg
  | 0, rs => (0, rs)
  | k + 1, rs => if ∀ r ∈ rs, evn r = true then formK k (rs.map halveR) else (k + 1, rs)
def formS (k : Nat) (rs : List Rg) : Nat × List Rg := formK (if ∀ r ∈ rs, r = nilR then 0 else k) rs
/-- formed, under way. -/
structure FSt (w : World) (B n : Nat) (k : Int) (rs : List Rg) (W : World) : Prop where
  but : But B w W
  lt : B < w.heap.size
  box : W.heap[w.heap.size]? = some (.cells #[.int .i64 n, .int .i64 k, .slice (some ⟨B, 0, none⟩) rs.length rs.length] 37)
  res : W.heap[w.heap.size + 1]? = some (.cells #[.int .i64 0, .int .i64 0, .slice none 0 0] 37)
  own : OwnR W B rs
  pt : ∀ r ∈ rs, r.Pt
theorem FSt.next {w W W' : World} {B n : Nat} {k : Int} {rs : List Rg} (h : FSt w B n k rs W) (hb : Below W.heap.size W W') : FSt w B n k rs W' :=
  ⟨h.but.trans (But.of hb), h.lt, Below.heap_some hb h.box, Below.heap_some hb h.res, h.own.below hb, h.pt⟩
theorem But.setCell {B : Nat} {w W : World} (h : But B w W) {b i : Nat} (hb : b = B ∨ w.heap.size ≤ b) (v : Value) : But B w (W.setCell ⟨b, i, none⟩ v) :=
  ⟨h.os, h.tape, h.output, by simpa using h.size, fun k hk hne => (setCell_far (by omega)).trans (h.block k hk hne)⟩
theorem FSt.setK {w W : World} {B n : Nat} {k : Int} {rs : List Rg} (h : FSt w B n k rs W) (k' : Int) : FSt w B n k' rs (W.setCell ⟨w.heap.size, 1, none⟩ (.int .i64 k')) := by
  have hl := h.lt
  refine ⟨h.but.setCell (.inr (Nat.le_refl _)) _, h.lt, ?_, (setCell_far (by omega)).trans h.res, h.own.far (by omega), h.pt⟩
  rw [setCell_block h.box]
  simp
theorem FSt.put {w W : World} {B n : Nat} {k : Int} {rs : List Rg} (h : FSt w B n k rs W) (j : Nat) (hj : j < rs.length) (r : Rg) (hr : r.Pt) : FSt w B n k (rs.set j r) ((W.setCell ⟨B, j * 2, none⟩ (.complex .f64 (Fl r.a) (Fl r.b))).setCell ⟨B, j * 2 + 1, none⟩ (.complex .f64 (Fl r.c) (Fl r.d))) := by
  have hl := h.lt
  refine ⟨(h.but.setCell (.inl rfl) _).setCell (.inl rfl) _, h.lt, ?_, ?_, h.own.put j hj r, fun s hs => ?_⟩
  · rw [setCell_far (by omega), setCell_far (by omega), h.box, List.length_set]
  · rw [setCell_far (by omega), setCell_far (by omega), h.res]
  · rcases List.mem_or_eq_of_mem_set hs with hs | rfl
    · exact h.pt s hs
    · exact hr
theorem But.pair {B : Nat} {w : World} (o o' : Obj) : But B w ((w.alloc o).alloc o') := (But.of (below1 _ _)).trans (But.of (below1 _ _))
theorem FSt.start {w : World} {B n k : Nat} {rs : List Rg} (h : OwnR w B rs) (hp : ∀ r ∈ rs, r.Pt) : FSt w B n k rs ((w.alloc (.cells #[.int .i64 n, .int .i64 k, .slice (some ⟨B, 0, none⟩) rs.length rs.length] 37)).alloc (.cells #[.int .i64 0, .int .i64 0, .slice none 0 0] 37)) :=
  ⟨But.pair _ _, (Array.getElem?_eq_some_iff.1 h).1, Below.heap_some (below1 _ _) (newB _ _ rfl), newB _ _ (by simp), (h.below (below1 _ _)).below (below1 _ _), hp⟩
/-- The elements, halved as far as j. -/
def half (rs : List Rg) (j : Nat) : List Rg := (rs.take j).map halveR ++ rs.drop j
theorem half_zero (rs : List Rg) : half rs 0 = rs := by simp [half]
theorem half_all (rs : List Rg) : half rs rs.length = rs.map halveR := by simp [half]
theorem half_len (rs : List Rg) (j : Nat) : (half rs j).length = rs.length := by simp [half]; omega
theorem half_pre (rs : List Rg) {j : Nat} (hj : j < rs.length) : ((rs.take j).map halveR).length = j := by rw [List.length_map, List.length_take]; omega
theorem half_at (rs : List Rg) {j : Nat} (hj : j < rs.length) : (half rs j)[j]? = some rs[j] := by
  have hl := half_pre rs hj
  unfold half
  rw [List.getElem?_append_right (by omega), hl, Nat.sub_self, List.getElem?_drop, Nat.add_zero, List.getElem?_eq_getElem hj]
theorem half_step (rs : List Rg) {j : Nat} (hj : j < rs.length) : (half rs j).set j (halveR rs[j]) = half rs (j + 1) := by
  have hl := half_pre rs hj
  unfold half
  rw [List.set_append_right _ _ (by omega), List.drop_eq_getElem_cons hj, List.take_add_one, List.getElem?_eq_getElem hj, hl, Nat.sub_self, List.map_append, List.append_assoc]
  rfl
theorem formK_step (k : Nat) (rs : List Rg) (h : ∀ r ∈ rs, evn r = true) : formK (k + 1) rs = formK k (rs.map halveR) := by rw [formK, if_pos h]
theorem formK_stop (k : Nat) (rs : List Rg) (h : ¬ ∀ r ∈ rs, evn r = true) : formK k rs = (k, rs) := by
  cases k with
  | zero => rfl
  | succ k => rw [formK, if_neg h]
theorem formK_le : ∀ (k : Nat) (rs : List Rg), (formK k rs).1 ≤ k
  | 0, _ => Nat.le_refl _
  | k + 1, rs => by
    rw [formK]
    split
    · exact Nat.le_succ_of_le (formK_le k _)
    · exact Nat.le_refl _
theorem formK_len : ∀ (k : Nat) (rs : List Rg), (formK k rs).2.length = rs.length
  | 0, _ => rfl
  | k + 1, rs => by
    rw [formK]
    split
    · rw [formK_len k _, List.length_map]
    · rfl
theorem formK_pt : ∀ (k : Nat) (rs : List Rg), (∀ r ∈ rs, r.Pt) → ∀ r ∈ (formK k rs).2, r.Pt
  | 0, _, h => h
  | k + 1, rs, h => by
    rw [formK]
    split
    · refine formK_pt k _ fun r hr => ?_
      obtain ⟨s, hs, rfl⟩ := List.mem_map.1 hr
      exact halveR_pt (h s hs)
    · exact h
/-- The answer. -/
structure Done (w : World) (B n : Nat) (a : Nat × List Rg) (W : World) : Prop where
  but : But B w W
  own : OwnR W B a.2
  pt : ∀ r ∈ a.2, r.Pt
set_option maxRecDepth 100000 in
set_option maxHeartbeats 4000000 in
theorem formed_calls (n k B : Nat) (rs : List Rg) (w : World) (hk : k ≤ 60) (ho : OwnR w B rs) (hp : ∀ r ∈ rs, r.Pt) (hl : rs.length ≤ 1024) : Calls Tryz.prog 56 #[.agg #[.int .i64 n, .int .i64 k, .slice (some ⟨B, 0, none⟩) rs.length rs.length]] w fun e w' => e = .returned (.tuple #[.agg #[.int .i64 n, .int .i64 (formS k rs).1, .slice (some ⟨B, 0, none⟩) rs.length rs.length], .int .i64 0]) ∧ OwnR w' B (formS k rs).2 ∧ But B w w' := by
  have HS : Hid (FSt w B n k rs _) := Lib.hid (FSt.start ho hp)
  have hlc : (rs.length : Int) ≤ 1024 := by omega
  have heq := eql65
  have hg65 := guard65
  clear ho
  go_enter Tryz.func56, Tryz.ntmps56
  go_wp2_with fail
  generalize (w.alloc (.cells #[.int .i64 n, .int .i64 k, .slice (some ⟨B, 0, none⟩) rs.length rs.length] 37)).alloc (.cells #[.int .i64 0, .int .i64 0, .slice none 0 0] 37) = W1 at *
  go_loopw [4, 6, 12] (fun nl _ k' W => ∃ j : Nat, j ≤ rs.length ∧ k' = .int .i64 j ∧ nl = .bool ((rs.take j).all fun r => decide (r = nilR)) ∧ FSt w B n k rs W) (fun _ _ k' _ => rs.length - (intOf k').toNat)
  case atStart => exact ⟨0, Nat.zero_le _, rfl, rfl, HS.out⟩
  case round =>
    obtain ⟨j, hj, rfl, rfl, hst⟩ := hrel
    clear HS
    have HS := Lib.hid hst
    clear hst
    by_cases hlt : j < rs.length
    · obtain ⟨c0, c1⟩ := HS.out.own.cells j hlt
      have hidx := fun W => idx35 .i64 B rs.length rs.length j hlt W
      have hpt := HS.out.pt _ (List.getElem_mem hlt)
      have HA : Hid ((rs.take (j + 1)).all (fun r => decide (r = nilR)) = ((rs.take j).all (fun r => decide (r = nilR)) && decide (rs[j] = nilR))) := Lib.hid (by
        rw [List.take_add_one, List.getElem?_eq_getElem hlt, List.all_append]
        simp)
      have he : ∀ W, (binOp .eql 65 (.agg #[.complex .f64 (Fl rs[j].a) (Fl rs[j].b), .complex .f64 (Fl rs[j].c) (Fl rs[j].d)]) (.agg #[.complex .f64 0 0, .complex .f64 0 0])).run Tryz.prog W = .ok (.bool (decide (rs[j] = nilR))) W := fun W => eqlR rs[j] nilR hpt nilR_pt W
      clear heq hpt
      generalize (rs.take j).all (fun r => decide (r = nilR)) = nu at *
      generalize decide (rs[j] = nilR) = isn at *
      generalize Fl rs[j].a = x at *
      generalize Fl rs[j].b = y at *
      generalize Fl rs[j].c = z at *
      generalize Fl rs[j].d = t at *
      have HS2 := Lib.hid (HS.out.next (below1 wr (.cells #[.complex .f64 x y, .complex .f64 z t] 65)))
      cases nu with
      | true =>
        go_wp2_with fail
        go_roundw
        case rel => exact ⟨j + 1, by omega, by go_num, by rw [HA.out]; simp, HS2.out⟩
        case measure => simp [intOf]; omega
      | false =>
        go_wp2_with fail
        go_roundw
        case rel => exact ⟨j + 1, by omega, by go_num, by rw [HA.out]; simp, HS2.out⟩
        case measure => simp [intOf]; omega
    · obtain rfl : j = rs.length := by omega
      rw [List.take_length] at *
      have d1 := cell_at (i := 1) HS.out.box rfl
      have d2 := cell_at (i := 2) HS.out.box rfl
      have df : ∀ i, wr.frozen? ⟨w.heap.size, i, none⟩ = false := fun i => free_at HS.out.box
      have HN : Hid (rs.all (fun r => decide (r = nilR)) = true ↔ ∀ r ∈ rs, r = nilR) := Lib.hid (by simp)
      have HSK := Lib.hid (HS.out.setK 0)
      generalize rs.all (fun r => decide (r = nilR)) = nu at *
      go_upto_if 23 with (fail)
      go_cut [] from 24 (fun W => FSt w B n ((if ∀ r ∈ rs, r = nilR then 0 else k : Nat) : Int) rs W)
      case first =>
        cases nu with
        | true =>
          go_wp2_with fail
          go_meet
          rw [if_pos (by simpa using HN.out)]
          exact HSK.out
        | false =>
          go_wp2_with fail
          go_meet
          rw [if_neg (by simpa using HN.out)]
          exact HS.out
      case rest =>
        clear HS HSK d1 d2 df HN
        have HS := Lib.hid hcut
        clear hcut
        have HK1 : Hid (formS k rs = formK (if ∀ r ∈ rs, r = nilR then 0 else k) rs) := Lib.hid rfl
        have hk1 : (if ∀ r ∈ rs, r = nilR then 0 else k) ≤ 60 := by split <;> omega
        generalize (if ∀ r ∈ rs, r = nilR then 0 else k) = k1 at *
        clear heq hg65
        go_wp2_with fail
        go_loopw [7, 8, 33, 34, 35, 36] (fun _ _ _ _ _ _ W => ∃ (kk : Nat) (rss : List Rg), kk ≤ 60 ∧ rss.length = rs.length ∧ formS k rs = formK kk rss ∧ FSt w B n kk rss W) (fun _ _ _ _ _ _ W => (intOf ((W.cell? ⟨w.heap.size, 1, none⟩).getD undef)).toNat)
        case atStart => exact ⟨k1, rs, hk1, rfl, HK1.out, HS.out⟩
        case round =>
          clear HS HK1
          obtain ⟨kk, rss, hkk, hrl, hform, hst⟩ := hrel
          have HS := Lib.hid hst
          have HK1 := Lib.hid hform
          clear hst hform
          have d1 := cell_at (i := 1) HS.out.box rfl
          have d2 := cell_at (i := 2) HS.out.box rfl
          rw [hrl] at d2
          have hBlt := HS.out.lt
          by_cases h0 : kk = 0
          · have hd : decide ((0 : Int) < (kk : Int)) = false := decide_eq_false (by omega)
            have HKK : Hid (formS k rs = (kk, rss)) := Lib.hid (by rw [HK1.out, h0]; rfl)
            have HE := HS
            clear HS
            have e0 := cell_at (i := 0) HE.out.box rfl
            have e1 := cell_at (i := 1) HE.out.box rfl
            have e2 := cell_at (i := 2) HE.out.box rfl
            have r0 := cell_at (i := 0) HE.out.res rfl
            have r1 := cell_at (i := 1) HE.out.res rfl
            have r2 := cell_at (i := 2) HE.out.res rfl
            have rf : ∀ i, wr.frozen? ⟨w.heap.size + 1, i, none⟩ = false := fun i => free_at HE.out.res
            rw [hrl] at e2
            have hk60 : decide ((60 : Int) < (kk : Int)) = false := decide_eq_false (by omega)
            have HB := Lib.hid HE.out.but
            have HO := Lib.hid HE.out.own
            clear HE d1 d2
            go_wp2_with fail
            refine bodyPost_ret (v := .tuple #[.agg #[.int .i64 n, .int .i64 kk, .slice (some ⟨B, 0, none⟩) rs.length rs.length], .int .i64 0]) (by simp [results, Tryz.results56, go_sem, *]) rfl ⟨by rw [HKK.out], ?_, ?_⟩
            · rw [HKK.out]
              exact ((HO.out.far (by omega)).far (by omega)).far (by omega)
            · exact ((HB.out.setCell (.inr (by omega)) _).setCell (.inr (by omega)) _).setCell (.inr (by omega)) _
          · have hd : decide ((0 : Int) < (kk : Int)) = true := decide_eq_true (by omega)
            have hR := HS.out.own.rings HS.out.pt (by omega)
            rw [hrl] at hR
            by_cases hall : ∀ r ∈ rss, evn r = true
            · have g := halvable_calls (some ⟨B, 0, none⟩) rs.length rss wr hR true ⟨fun _ => hall, fun _ => rfl⟩
              rw [hrl] at g
              have HALL := Lib.hid hall
              clear hR hall
              go_wp2_with fail
              go_at_call 64
              refine g.mono ?_
              rintro e w3 ⟨rfl, hb⟩
              have HS2 : Hid (FSt w B n kk (half rss 0) w3) := Lib.hid (by rw [half_zero]; exact HS.out.next hb)
              have d2 := cell_at (i := 2) HS2.out.box rfl
              rw [half_len, hrl] at d2
              have HD1 := Lib.hid d1
              clear hb HS g d1
              go_wp2_with fail
              go_loopw [7, 8, 36] (fun _ _ k' W => ∃ j : Nat, j ≤ rs.length ∧ k' = .int .i64 j ∧ FSt w B n kk (half rss j) W) (fun _ _ k' _ => rs.length - (intOf k').toNat)
              case atStart => exact ⟨0, Nat.zero_le _, rfl, HS2.out⟩
              case round =>
                rename_i wq
                obtain ⟨j, hj, rfl, hst⟩ := hrel
                clear HS2 d2
                have HS2 := Lib.hid hst
                clear hst
                have d2 := cell_at (i := 2) HS2.out.box rfl
                rw [half_len, hrl] at d2
                by_cases hlt : j < rs.length
                · have hj2 : j < (half rss j).length := by rw [half_len]; omega
                  have hjr : j < rss.length := by omega
                  obtain ⟨c0, c1⟩ := HS2.out.own.cells j hj2
                  have hat : (half rss j)[j] = rss[j] := by
                    have h1 := half_at rss hjr
                    rw [List.getElem?_eq_getElem hj2] at h1
                    injection h1
                  rw [hat] at c0 c1
                  have hidx := fun W => idx35 .i64 B rs.length rs.length j hlt W
                  have hpt : rss[j].Pt := hat ▸ HS2.out.pt _ (List.getElem_mem hj2)
                  have g := rhalve_yes rss[j] hpt (HALL.out _ (List.getElem_mem hjr))
                  have HPUT : Hid (∀ W, FSt w B n kk (half rss j) W → FSt w B n kk (half rss (j + 1)) ((W.setCell ⟨B, j * 2, none⟩ (.complex .f64 (Fl (halveR rss[j]).a) (Fl (halveR rss[j]).b))).setCell ⟨B, j * 2 + 1, none⟩ (.complex .f64 (Fl (halveR rss[j]).c) (Fl (halveR rss[j]).d)))) := Lib.hid fun W h => by
                    have h1 := h.put j hj2 (halveR rss[j]) (halveR_pt hpt)
                    rw [half_step rss hjr] at h1
                    exact h1
                  have HC : Hid (∀ W, FSt w B n kk (half rss j) W → ∃ v0 v1, W.cell? ⟨B, j * 2, none⟩ = some v0 ∧ W.cell? ⟨B, j * 2 + 1, none⟩ = some v1) := Lib.hid fun W h => ⟨_, _, h.own.cells j hj2⟩
                  clear hpt hat hj2
                  generalize hh : halveR rss[j] = h at *
                  generalize rss[j] = r at *
                  clear hh
                  generalize Fl r.a = x at *
                  generalize Fl r.b = y at *
                  generalize Fl r.c = z at *
                  generalize Fl r.d = t at *
                  generalize Fl h.a = x' at *
                  generalize Fl h.b = y' at *
                  generalize Fl h.c = z' at *
                  generalize Fl h.d = t' at *
                  have HS3 := Lib.hid (HS2.out.next (below1 wr (.cells #[.complex .f64 x y, .complex .f64 z t] 65)))
                  have k0 : (wr.alloc (.cells #[.complex .f64 x y, .complex .f64 z t] 65)).cell? ⟨wr.heap.size, 0, none⟩ = some (.complex .f64 x y) := cell_at (newB _ _ rfl) rfl
                  have k1 : (wr.alloc (.cells #[.complex .f64 x y, .complex .f64 z t] 65)).cell? ⟨wr.heap.size, 1, none⟩ = some (.complex .f64 z t) := cell_at (newB _ _ rfl) rfl
                  go_wp2_with fail
                  clear c0 c1 d2 HS2
                  have d2 := cell_at (i := 2) HS3.out.box rfl
                  rw [half_len, hrl] at d2
                  generalize wr.heap.size = bx at *
                  generalize wr.alloc (.cells #[.complex .f64 x y, .complex .f64 z t] 65) = W2 at *
                  go_region_with (first | (go_at_call 79; refine (g _).mono ?_; rintro e w' ⟨rfl, hb⟩; have HS4 := Lib.hid (HS3.out.next (((Below.refl _ W2).drew).trans hb)); have y2 := cell_at (i := 2) HS4.out.box rfl; rw [half_len, hrl] at y2; have yf : ∀ i, w'.frozen? ⟨B, i, none⟩ = false := fun i => free_at HS4.out.own; obtain ⟨v0, v1, z0, z1⟩ := HC.out _ HS4.out))
                  all_goals (
                    have HS5 := Lib.hid (HPUT.out _ HS4.out)
                    go_wp2_with fail
                    go_roundw
                    case rel => exact ⟨j + 1, by omega, by go_num, HS5.out⟩
                    case measure => simp [intOf]; omega)
                · obtain rfl : j = rs.length := by omega
                  obtain ⟨kp, rfl⟩ : ∃ kp, kk = kp + 1 := ⟨kk - 1, by omega⟩
                  have HK3 : Hid (formS k rs = formK kp (rss.map halveR)) := Lib.hid (by rw [HK1.out, formK_step kp rss HALL.out])
                  have d1 := cell_at (i := 1) HS2.out.box rfl
                  have df : ∀ i, wr.frozen? ⟨w.heap.size, i, none⟩ = false := fun i => free_at HS2.out.box
                  have HS5 : Hid (FSt w B n kp (rss.map halveR) (wr.setCell ⟨w.heap.size, 1, none⟩ (.int .i64 kp))) := Lib.hid (by
                    have h1 := HS2.out.setK (kp : Int)
                    rw [← hrl, half_all] at h1
                    exact h1)
                  have hsub : ((kp + 1 : Nat) : Int) - 1 = kp := by omega
                  clear HALL HK1 HS2 h0 hd
                  have hcell : (wr.setCell ⟨w.heap.size, 1, none⟩ (.int .i64 kp)).cell? ⟨w.heap.size, 1, none⟩ = some (.int .i64 kp) := cell_at (i := 1) HS5.out.box rfl
                  go_wp2_with fail
                  go_roundw
                  case rel => exact ⟨kp, rss.map halveR, by omega, by rw [List.length_map]; exact hrl, HK3.out, HS5.out⟩
                  case measure =>
                    have hd1 := HD1.out
                    simp only [List.getElem_toArray, List.getElem_cons_succ, List.getElem_cons_zero] at hd1
                    rw [hcell, hd1]
                    simp only [Option.getD_some, intOf]
                    omega
            · have g := halvable_calls (some ⟨B, 0, none⟩) rs.length rss wr hR false ⟨fun h => (by cases h), fun h => absurd h hall⟩
              rw [hrl] at g
              have HKK : Hid (formS k rs = (kk, rss)) := Lib.hid (by rw [HK1.out, formK_stop kk rss hall])
              clear hR hall
              go_wp2_with fail
              go_at_call 64
              refine g.mono ?_
              rintro e w3 ⟨rfl, hb⟩
              have HE := Lib.hid (HS.out.next hb)
              clear hb HS g
              have e0 := cell_at (i := 0) HE.out.box rfl
              have e1 := cell_at (i := 1) HE.out.box rfl
              have e2 := cell_at (i := 2) HE.out.box rfl
              have r0 := cell_at (i := 0) HE.out.res rfl
              have r1 := cell_at (i := 1) HE.out.res rfl
              have r2 := cell_at (i := 2) HE.out.res rfl
              have rf : ∀ i, w3.frozen? ⟨w.heap.size + 1, i, none⟩ = false := fun i => free_at HE.out.res
              rw [hrl] at e2
              have hk60 : decide ((60 : Int) < (kk : Int)) = false := decide_eq_false (by omega)
              have HB := Lib.hid HE.out.but
              have HO := Lib.hid HE.out.own
              clear HE d1 d2
              go_wp2_with fail
              refine bodyPost_ret (v := .tuple #[.agg #[.int .i64 n, .int .i64 kk, .slice (some ⟨B, 0, none⟩) rs.length rs.length], .int .i64 0]) (by simp [results, Tryz.results56, go_sem, *]) rfl ⟨by rw [HKK.out], ?_, ?_⟩
              · rw [HKK.out]
                exact ((HO.out.far (by omega)).far (by omega)).far (by omega)
              · exact ((HB.out.setCell (.inr (by omega)) _).setCell (.inr (by omega)) _).setCell (.inr (by omega)) _
end Go.Proofs.YtlobgpgdknjhlaaGreat.WH
