/- Order: walked. -/
import Derived.Test.YtlobgpgdknjhlaaGreatWhBE
import Derived.Deep.RegionWith
import Derived.Deep.CutRange
import Derived.Deep.RegionLaw
namespace Go.Proofs.YtlobgpgdknjhlaaGreat.WH
open Go Go.RowKit Go.Proofs.YtlobgpgdknjhlaaGreat.F
set_option linter.unusedVariables false
set_option linter.unusedSimpArgs false
attribute [local go_sem] run_store_complex run_store_func
set_option maxRecDepth 100000 in
set_option maxHeartbeats 4000000 in
theorem order_calls (n b : Nat) (hn : n ≤ 10) (hb : b ≤ 64) (a : Option Addr) (c : Nat) (gs : List Gop) (ao : Option Addr) (co : Nat) (order : List Nat) (N : Nat) (h1 : gs.length = N) (h2 : order.length = N) (w : World) (h : Circ w n a c gs) (ho : Ints w ao co order) (hl : N ≤ 4096) (hs : sumH gs ≤ 36)
    (hp : order.Perm (List.range N)) (hbd : order.Pairwise fun a b => b < a → bdG gs b a = false) :
    Calls Tryz.prog 20 #[.agg #[.int .i64 n, .int .i64 b, .slice a N c], .slice ao N co] w fun e w' => ∃ a' c' ds, e = .returned (.tuple #[.agg #[.int .i64 n, .int .i64 b, .slice a' N c'], .int .i64 0]) ∧ ds.length = N ∧ ds.map keyG = (order.map (opG gs)).map keyG ∧ Circ w' n a' c' ds ∧ Below w.heap.size w w' := by
  have HC := Lib.hid h
  have HO := Lib.hid ho
  have HP := Lib.hid hp
  have HB := Lib.hid hbd
  have H1 := Lib.hid h1
  have H2 := Lib.hid h2
  have hlc : (N : Int) ≤ 4096 := by omega
  have hmk := fun W => make_bools N hl W
  have g37 := fun w h => ccheck_calls n b (by omega) hb a c gs w h (by omega) hs
  rw [h1] at g37
  have HS := Lib.hid (Box2.start w #[.int .i64 n, .int .i64 b, .slice a N c] #[.int .i64 0, .int .i64 0, .slice none 0 0] 31 31)
  have hcap := ho.len
  have hcap2 := ho.cap
  have hcap3 := h.len
  have hcap4 := h.cap
  rw [h1] at hcap3
  rw [h2] at hcap
  clear h ho hp hbd h1 h2
  go_enter Tryz.func20, Tryz.ntmps20
  go_wp2_with fail
  go_at_call 37
  refine (g37 _ (HC.out.below HS.out.below)).mono ?_
  rintro x w2 ⟨rfl, hb2⟩
  have HS2 := Lib.hid (HS.out.next hb2)
  clear hb2 HS
  have p0 := cell_at (i := 0) HS2.out.b0 rfl
  have p1 := cell_at (i := 1) HS2.out.b0 rfl
  have p2 := cell_at (i := 2) HS2.out.b0 rfl
  have plt := block_lt p0
  go_wp2_with fail
  have HA : Hid (OrdA w #[.int .i64 n, .int .i64 b, .slice a N c] w2.heap.size (.cells ((snL N (order.take 0)).map boolV).toArray 4) (w2.alloc (.cells (List.map boolV (List.replicate N false)).toArray 4))) := Lib.hid (by rw [List.take_zero, snL_nil]; exact OrdA.ofBox HS2.out _)
  clear HS2 p0 p1 p2 plt hmk g37
  generalize w2.heap.size = SB at *
  go_loopw [37] (fun k W => ∃ i : Nat, i ≤ N ∧ k = .int .i64 i ∧ OrdA w #[.int .i64 n, .int .i64 b, .slice a N c] SB (.cells ((snL N (order.take i)).map boolV).toArray 4) W) (fun k _ => N - (intOf k).toNat)
  case atStart => exact ⟨0, Nat.zero_le _, rfl, by have h := HA.out; simp only [List.map_replicate, List.toArray_replicate] at h; exact h⟩
  case round =>
    clear HA
    obtain ⟨i, hi, rfl, hst⟩ := hrel
    have HA := Lib.hid hst
    clear hst
    by_cases hlt : i < N
    · have hlo : i < order.length := by rw [H2.out]; exact hlt
      obtain ⟨bo, oo, hbl, hidx, hc0⟩ := (HO.out.below HA.out.below).at i hlo
      rw [H2.out] at hidx
      have hx : order[i] < N := List.mem_range.1 (HP.out.mem_iff.1 (List.getElem_mem hlo))
      have hnd : order.Nodup := HP.out.nodup_iff.2 List.nodup_range
      have hnx : order[i] ∉ order.take i := List.Nodup.not_mem_take hnd hlo
      have sc := HA.out.sn_cell hx hnx
      have sf : ∀ k, wr.frozen? ⟨SB, k, none⟩ = false := fun k => free_at HA.out.bd
      have slt := lt_of_heap HA.out.bd
      have ix := idx110 (g := SB) hx
      have HNX : Hid (OrdA w #[.int .i64 n, .int .i64 b, .slice a N c] SB (.cells ((snL N (order.take (i + 1))).map boolV).toArray 4) (wr.setCell ⟨SB, order[i], none⟩ (.bool true))) := Lib.hid (by
        rw [List.take_succ_eq_append_getElem hlo]
        exact HA.out.sn_set _)
      have d0 : decide ((order[i] : Int) < 0) = false := decide_eq_false (by omega)
      have d1 : decide ((N : Int) ≤ (order[i] : Int)) = false := decide_eq_false (by omega)
      clear hnd hnx HA
      generalize order[i] = x at *
      go_wp2_with fail
      go_roundw
      case rel => exact ⟨i + 1, by omega, by go_num, HNX.out⟩
      case measure => simp [intOf]; omega
    · obtain rfl : N = i := by omega
      have p0 := cell_at (i := 0) HA.out.b0 rfl
      have p1 := cell_at (i := 1) HA.out.b0 rfl
      have p2 := cell_at (i := 2) HA.out.b0 rfl
      have plt := block_lt p0
      go_wp2_with fail
      have HD : Hid (OrdSt w #[.int .i64 n, .int .i64 b, .slice a N c] wr.heap.size n b none 0 [] (wr.alloc (.cells #[.int .i64 n, .int .i64 b, .slice none 0 0] 31))) := Lib.hid (OrdSt.start HA.out)
      clear HA p0 p1 p2 plt hi hlt
      generalize wr.heap.size = BD at *
      go_loopw [67] (fun k W => ∃ (j : Nat) (av : Option Addr) (cv : Nat) (ds : List Gop), j ≤ N ∧ k = .int .i64 j ∧ ds.length = j ∧ ds.map keyG = ((order.take j).map (opG gs)).map keyG ∧ OrdSt w #[.int .i64 n, .int .i64 b, .slice a N c] BD n b av cv ds W) (fun k _ => N - (intOf k).toNat)
      case atStart => exact ⟨0, none, 0, [], Nat.zero_le _, rfl, rfl, rfl, HD.out⟩
      case round =>
        clear HD
        obtain ⟨j, av, cv, ds, hj, rfl, hdl, hkey, hst⟩ := hrel
        have HS := Lib.hid hst
        have HK := Lib.hid hkey
        have HDL := Lib.hid hdl
        clear hst hkey hdl
        by_cases hjl : j < N
        · have hlo : j < order.length := by rw [H2.out]; exact hjl
          obtain ⟨bo, oo, hbl, hidx, hc0⟩ := (HO.out.below HS.out.st.below).at j hlo
          rw [H2.out] at hidx
          obtain ⟨bq, oq, rfl⟩ : ∃ b o, ao = some ⟨b, o, none⟩ := by
            rcases HO.out.at_ with e | ⟨b, off, e, hc⟩
            · rw [e] at hlo; simp at hlo
            · exact ⟨b, off, e⟩
          have hTl : (order.take j).length = j := by rw [List.length_take]; omega
          have hxN : order[j] < N := List.mem_range.1 (HP.out.mem_iff.1 (List.getElem_mem hlo))
          have hxg : order[j] < gs.length := by rw [H1.out]; exact hxN
          have HXP : Hid (∀ (m : Nat) (hm : m < j), order[j] < order[m] → bdG gs order[j] order[m] = false) := Lib.hid fun m hm => List.pairwise_iff_getElem.1 HB.out m j (by omega) hlo hm
          have HKN : Hid (∀ (aq : Option Addr) (cq : Nat), (ds ++ [(⟨gs[order[j]].e, aq, cq, gs[order[j]].qs⟩ : Gop)]).map keyG = ((order.take (j + 1)).map (opG gs)).map keyG) := Lib.hid fun aq cq => by
            rw [List.take_succ_eq_append_getElem hlo, List.map_append, List.map_append, List.map_append, HK.out]
            simp [keyG, opG_at hxg]
          have HXO := Lib.hid (And.intro (HC.out.ok _ (List.getElem_mem hxg)) (HC.out.ints _ (List.getElem_mem hxg)))
          go_wp2_with fail
          clear hidx hc0
          go_loopw [76] (fun k W => ∃ m : Nat, m ≤ j ∧ k = .int .i64 m ∧ OrdSt w #[.int .i64 n, .int .i64 b, .slice a N c] BD n b av cv ds W) (fun k _ => j - (intOf k).toNat)
          case atStart => exact ⟨0, Nat.zero_le _, rfl, HS.out⟩
          case round =>
            clear HS
            obtain ⟨m, hm, rfl, hst⟩ := hrel
            have HS := Lib.hid hst
            clear hst
            obtain ⟨bx, ox, hbx, hidx, c0, c1, c2, c3, c4, c5, c6⟩ := (HC.out.below HS.out.st.below).at order[j] hxg
            rw [H1.out] at hidx
            have p2 := cell_at (i := 2) HS.out.st.b0 rfl
            have plt := block_lt p2
            by_cases hml : m < j
            · have hmo : m < order.length := by omega
              have hmt : m < (order.take j).length := by rw [hTl]; exact hml
              obtain ⟨bm, om, hbm, hidm, hcm⟩ := ((HO.out.take j).below HS.out.st.below).at m hmt
              rw [hTl] at hidm
              rw [List.getElem_take] at hcm
              have hyN : order[m] < N := List.mem_range.1 (HP.out.mem_iff.1 (List.getElem_mem hmo))
              have hyg : order[m] < gs.length := by rw [H1.out]; exact hyN
              have hyb := HXP.out m hml
              rw [bdG_of hxg hyg] at hyb
              have HYB := Lib.hid hyb
              obtain ⟨bz, oz, hbz, hidz, d0, d1, d2, d3, d4, d5, d6⟩ := (HC.out.below HS.out.st.below).at order[m] hyg
              rw [H1.out] at hidz
              have HYO := Lib.hid (And.intro (HC.out.ok _ (List.getElem_mem hyg)) (HC.out.ints _ (List.getElem_mem hyg)))
              clear hyb HKN HXP
              generalize gs[order[j]] = gx at *
              generalize gs[order[m]] = gy at *
              clear hxg hyg
              generalize order[j] = x at *
              generalize order[m] = y at *
              have hqx : ∀ q ∈ gx.qs, q < 64 := fun q h => by have := HXO.out.1.lt q h; omega
              have hqy : ∀ q ∈ gy.qs, q < 64 := fun q h => by have := HYO.out.1.lt q h; omega
              have g50 := fun w (h1 : Ints w gx.aq gx.cq gx.qs) (h2 : Ints w gy.aq gy.cq gy.qs) => bound_calls gx.e.name gy.e.name gx.aq gy.aq gx.cq gy.cq gx.qs gy.qs w h1 h2 hqx hqy
              clear hqx hqy
              have HS2 := Lib.hid (HS.out.next (Below.refl _ wr).drew)
              by_cases hxy : x < y
              · have hd : decide ((x : Int) < (y : Int)) = true := decide_eq_true (by omega)
                rw [HYB.out hxy] at g50
                go_wp2_with fail
                go_still_tail 14, (by kernel_rfl)
                change wpList _ _ _ _ _ wr.drew
                go_wp2_with fail
                go_at_call 50
                refine (g50 _ (HXO.out.2.below HS2.out.st.below) (HYO.out.2.below HS2.out.st.below)).mono ?_
                rintro e wA ⟨rfl, hA⟩
                have HS3 := Lib.hid (HS2.out.next hA)
                clear hA HS2 HS c0 c1 c2 c3 c4 c5 c6 d0 d1 d2 d3 d4 d5 d6 p2
                go_wp2_with fail
                exact ⟨⟨m + 1, by omega, by go_num, HS3.out⟩, by simp [intOf]; omega⟩
              · have hd : decide ((x : Int) < (y : Int)) = false := decide_eq_false (by omega)
                go_wp2_with fail
                clear c0 c1 c2 c3 c4 c5 c6 d0 d1 d2 d3 d4 d5 d6 p2 hidx hidz hidm hcm g50
                go_region
                all_goals (
                  go_wp2_with fail
                  exact ⟨⟨m + 1, by omega, by go_num, HS2.out⟩, by simp [intOf]; omega⟩)
            · obtain rfl : j = m := by omega
              have hkn := HKN.out
              clear HKN HXP
              generalize gs[order[j]] = gx at *
              clear hxg
              generalize order[j] = x at *
              have HKN := Lib.hid hkn
              have har := ar_le gx.e HXO.out.1.mem
              have hl0 : 0 < gx.qs.length := by rw [HXO.out.1.len]; omega
              have g51 := fun w (h : Ints w gx.aq gx.cq gx.qs) => copied_calls gx.e.name gx.aq gx.cq gx.qs w h hl0 (by rw [HXO.out.1.len]; omega)
              have HS6 := Lib.hid (HS.out.next (Below.refl _ wr).drew)
              have hown0 := HS.out.own
              have q2 := cell_at (i := 2) HS.out.st.bd rfl
              have blt := lt_of_heap HS.out.st.bd
              have hBD9 : wr.drew.heap.size = wr.heap.size := rfl
              have hdn : ds.length ≤ 5000 := by rw [HDL.out]; omega
              clear hkn har hown0
              go_wp2_with fail
              go_region_law (first
                | (go_simp; go_at_call 51; refine (g51 _ (HXO.out.2.below HS6.out.st.below)).mono ?_; rintro e w1 ⟨gq, cq', rfl, hints, hge, hb1⟩; have HS7 := Lib.hid (HS6.out.next hb1); have q2 := cell_at (i := 2) HS7.out.st.bd rfl; have blt2 := lt_of_heap HS7.out.st.bd; have HS8 := Lib.hid (HS7.out.next (below1 w1 (.cells #[.int .i64 1, .string gx.e.name, .slice (some ⟨gq, 0, none⟩) gx.qs.length cq', .int .i64 0, .bool false, .int .u64 0, .int .u64 0] 28))); have HIN := Lib.hid (hints.below (below1 w1 (.cells #[.int .i64 1, .string gx.e.name, .slice (some ⟨gq, 0, none⟩) gx.qs.length cq', .int .i64 0, .bool false, .int .u64 0, .int .u64 0] 28))); have HNE := Lib.hid (HS6.out.ne hge); have hgq2 : BD < gq := (by omega); have hgq3 := HIN.out.lt hl0; have hB8 := lt_of_heap HS8.out.st.bd; have hone : ∀ u ∈ Gop.cs ⟨gx.e, some ⟨gq, 0, none⟩, cq', gx.qs⟩, u.oneCell' = true := cs_one _; clear hints hge hb1)
                | (refine step_append_op rfl _ _ rfl rfl rfl HS8.out.own (cs_len ⟨gx.e, some ⟨gq, 0, none⟩, cq', gx.qs⟩) (cells_new _ _ _) hone hdn hB8 ?_; intro v' w' ho hg hf; obtain ⟨av', cv', rfl⟩ := own_isSlice ho; have HA := Lib.hid (OrdSt.put HS8.out ⟨gx.e, some ⟨gq, 0, none⟩, cq', gx.qs⟩ rfl hgq2 hgq3 HNE.out HIN.out ho hg hf); have u0 := OrdSt.after HS8.out hg; have u2 := cell_at (i := 2) u0 rfl; have u3 : ∀ k, w'.frozen? ⟨BD, k, none⟩ = false := fun k => free_at u0; have u4 := lt_of_heap u0; clear ho hg hf u0))
              all_goals (
                go_wp2_with fail
                exact ⟨⟨j + 1, av', cv', ds ++ [⟨gx.e, some ⟨gq, 0, none⟩, cq', gx.qs⟩], by omega, by go_num, by simp [HDL.out], HKN.out _ _, HA.out⟩, by simp [intOf]; omega⟩)
        · obtain rfl : N = j := by omega
          have q0 := cell_at (i := 0) HS.out.st.bd rfl
          have q1 := cell_at (i := 1) HS.out.st.bd rfl
          have q2 := cell_at (i := 2) HS.out.st.bd rfl
          have r0 := cell_at (i := 0) HS.out.st.b4 rfl
          have r1 := cell_at (i := 1) HS.out.st.b4 rfl
          have r2 := cell_at (i := 2) HS.out.st.b4 rfl
          have rf : ∀ k, wr.frozen? ⟨w.heap.size + 1, k, none⟩ = false := fun k => free_at HS.out.st.b4
          have rlt := lt_of_heap HS.out.st.b4
          have blt := lt_of_heap HS.out.st.bd
          have hkey := HK.out
          rw [List.take_of_length_le (by rw [H2.out]; exact Nat.le_refl _)] at hkey
          have HOK : Hid (∀ d ∈ ds, d.Ok n) := Lib.hid (ok_key hkey fun i hi => by
            have h9 : i < gs.length := by rw [H1.out]; exact List.mem_range.1 (HP.out.mem_iff.1 hi)
            rw [opG_at h9]
            exact HC.out.ok _ (List.getElem_mem h9))
          have HKY := Lib.hid hkey
          have HLO := Lib.hid HS.out.st.lo
          clear hkey
          go_wp2_with fail
          refine bodyPost_ret (v := .tuple #[.agg #[.int .i64 n, .int .i64 b, .slice av ds.length cv], .int .i64 0]) (by simp [results, Tryz.results20, go_sem, *]) rfl ⟨av, cv, ds, by rw [HDL.out], HDL.out, HKY.out, ?_, ?_⟩
          · have h5 := HLO.out
            exact HS.out.circ_far HOK.out fun g hg => (setCell_far (by omega)).trans ((setCell_far (by omega)).trans (setCell_far (by omega)))
          · exact ((HS.out.st.below.setCell (by show w.heap.size ≤ w.heap.size + 1; omega) _).setCell (by show w.heap.size ≤ w.heap.size + 1; omega) _).setCell (by show w.heap.size ≤ w.heap.size + 1; omega) _
end Go.Proofs.YtlobgpgdknjhlaaGreat.WH
