/- code.bound, walked. -/
import Derived.Test.YtfnmembjgclhoaaCodE
import Derived.Laws.OwnMore
namespace Go.Proofs.Ytfnmembjgclhoaa.CD
open Go Go.RowKit
set_option linter.unusedVariables false
set_option linter.unusedSimpArgs false

theorem Rows.start {w w1 : World} (n : Nat) (hg : w.grownBy w1 none) (hown : w1.ownsRow w.heap.size 83 2 (.slice (some ⟨w.heap.size, 0, none⟩) n n) n (madeCells (Value.agg #[.int .u64 0, .int .u64 0]).cells (n * 2)).toList) : Rows w1 w.heap.size (List.replicate n (0, 0)) := by
  refine ⟨fun k hk => ?_, fun i => hown.frozenAt i, ?_, fun y hy => ?_⟩
  · have hk' : k < n := by simpa using hk
    have c1 := hown.cellAt (k * 2) (by omega)
    have c2 := hown.cellAt (k * 2 + 1) (by omega)
    have e : (Value.agg #[.int .u64 0, .int .u64 0]).cells = #[.int .u64 0, .int .u64 0] := rfl
    rw [e] at c1 c2
    rw [made_cell _ _ (by omega)] at c1 c2
    simp [c1, c2]
  · exact (hown.lt w.heap.size rfl).2
  · have := (List.mem_replicate.1 hy).2
    subst this
    exact ⟨Nat.two_pow_pos 64, Nat.two_pow_pos 64⟩

theorem grown_below {w w1 : World} (hg : w.grownBy w1 none) : Below w.heap.size w w1 := ⟨hg.os, hg.tape, hg.output, hg.size, fun i hi => hg.block i hi (by simp)⟩

/-- Inside the inner loop. -/
structure InSt (w : World) (h : Nat) (rx rz : Nat) (L : List Rw) (wr : World) : Prop where
  rows : Rows wr w.heap.size L
  hb : Below w.heap.size w wr
  r1 : wr.cell? ⟨h, 0, none⟩ = some (.int .u64 rx)
  r2 : wr.cell? ⟨h, 1, none⟩ = some (.int .u64 rz)
  ne : h ≠ w.heap.size
theorem InSt.drewN {w wr : World} {h rx rz : Nat} {L : List Rw} (s : InSt w h rx rz L wr) (n : Nat) : InSt w h rx rz L (wr.drewN n) :=
  ⟨s.rows.below s.rows.lt ⟨rfl, rfl, rfl, Nat.le_refl _, fun _ _ => rfl⟩, belowD s.hb n, s.r1, s.r2, s.ne⟩
theorem InSt.drew {w wr : World} {h rx rz : Nat} {L : List Rw} (s : InSt w h rx rz L wr) : InSt w h rx rz L wr.drew := s.drewN 1
theorem InSt.setX {w wr : World} {h rx rz : Nat} {L : List Rw} (s : InSt w h rx rz L wr) {k : Nat} (hk : k < L.length) {v : Nat} (hv : U v) : InSt w h rx rz (L.set k (v, L[k].2)) (wr.setCell ⟨w.heap.size, k * 2, none⟩ (.int .u64 (v : Int))) :=
  ⟨s.rows.setX hk hv, s.hb.setCell (show w.heap.size ≤ (⟨w.heap.size, k * 2, none⟩ : Addr).block from Nat.le_refl _) _, (World.cell?_setCell_other _ _ _ _ (by intro e; exact s.ne (congrArg Addr.block e).symm)).trans s.r1, (World.cell?_setCell_other _ _ _ _ (by intro e; exact s.ne (congrArg Addr.block e).symm)).trans s.r2, s.ne⟩
theorem InSt.setZ {w wr : World} {h rx rz : Nat} {L : List Rw} (s : InSt w h rx rz L wr) {k : Nat} (hk : k < L.length) {v : Nat} (hv : U v) : InSt w h rx rz (L.set k (L[k].1, v)) (wr.setCell ⟨w.heap.size, k * 2 + 1, none⟩ (.int .u64 (v : Int))) :=
  ⟨s.rows.setZ hk hv, s.hb.setCell (show w.heap.size ≤ (⟨w.heap.size, k * 2 + 1, none⟩ : Addr).block from Nat.le_refl _) _, (World.cell?_setCell_other _ _ _ _ (by intro e; exact s.ne (congrArg Addr.block e).symm)).trans s.r1, (World.cell?_setCell_other _ _ _ _ (by intro e; exact s.ne (congrArg Addr.block e).symm)).trans s.r2, s.ne⟩
/-- What the walk reads of row k. -/
theorem InSt.facts {w wr : World} {h rx rz : Nat} {L : List Rw} (s : InSt w h rx rz L wr) {k : Nat} (hk : k < L.length) {yx yz : Nat} (hy : L[k] = (yx, yz)) :
    wr.cell? ⟨w.heap.size, k * 2, none⟩ = some (.int .u64 yx) ∧ wr.cell? ⟨w.heap.size, k * 2 + 1, none⟩ = some (.int .u64 yz) ∧ wr.frozen? ⟨w.heap.size, k * 2, none⟩ = false ∧ wr.frozen? ⟨w.heap.size, k * 2 + 1, none⟩ = false ∧ U yx ∧ U yz := by
  have h1 := s.rows.at_ k hk
  have h2 := s.rows.u _ (List.getElem_mem hk)
  rw [hy] at h1 h2
  exact ⟨h1.1, h1.2, s.rows.free _, s.rows.free _, h2.1, h2.2⟩

set_option maxRecDepth 100000 in
set_option maxHeartbeats 2000000 in
theorem bound_calls (a : Option Addr) (c : Nat) (l : List Pau) (w : World) (hr : Row w a c l) (r : Bool) (hres : elim (l.map xz) = r) :
    Calls Try.prog 30 #[(Value.slice a l.length c)] w fun e w' => e = .returned (.bool r) ∧ Below w.heap.size w w' := by
  have hsm := hr.small
  have hsm' : l.length ≤ 4398046511104 := by omega
  obtain ⟨i0, hi, hz0, hz1, hz2⟩ := info_parts info83
  obtain ⟨w1, hmk, hown, hgr⟩ := run_make_full (P := Try.prog) w w.heap.size 81 83 i0 _ 2 Try.underlying81 hi hz0 hz1   .i64 .i64 l.length (by rw [hz2]; omega) (by unfold maxLen; omega) (Nat.le_refl _)
  have HR := Lib.hid hr
  have HRES := Lib.hid hres
  have HR1 := Lib.hid (Rows.start l.length hgr hown)
  have HB1 := Lib.hid (grown_below hgr)
  have hbd : ∀ (w : World) (x z : Int), (Instr.build 83 #[(0, .int .u64 x), (1, .int .u64 z)]).run Try.prog w = .ok (.agg #[.int .u64 x, .int .u64 z]) w := fun w x z => run_build w 83 _ _ (by kernel_rfl)
  have hbd0 : ∀ (w : World), (Instr.build 83 #[]).run Try.prog w = .ok (.agg #[.int .u64 0, .int .u64 0]) w := fun w => run_build w 83 _ _ (by kernel_rfl)
  have heq := eql83
  have hgd := guard83
  clear hr hres hown hgr hi hz0 hz1 hz2
  go_enter Try.func30, Try.ntmps30
  go_wp2
  go_loopw [15] (fun s wr => ∃ i : Nat, i ≤ l.length ∧ s = .int .i64 i ∧ Rows wr w.heap.size (filled l i) ∧ Below w.heap.size w wr) (fun s _ => l.length - (intOf s).toNat)
  case atStart => exact ⟨0, Nat.zero_le _, rfl, by rw [filled_zero]; exact HR1.out, HB1.out⟩
  case round =>
    obtain ⟨i, hi, rfl, hrows, hb⟩ := hrel
    have HROW := Lib.hid hrows
    have HB := Lib.hid hb
    clear hrows hb
    by_cases hlt : i < l.length
    · obtain ⟨b, o, hbl, hidx, hc0, hc1, hc2, hc3⟩ := (HR.out.below HB.out).at i hlt
      have hwf := HR.out.cell i hlt
      have hfl := filled_len l hi
      obtain ⟨q1, q2⟩ := HROW.out.at_ i (by omega)
      have qf := HROW.out.free
      have qf1 := qf (i * 2)
      have qf2 := qf (i * 2 + 1)
      have HST := Lib.hid (filled_step l hlt)
      have hsz : w.heap.size < wr.heap.size := HROW.out.lt
      have HWF := Lib.hid hwf
      clear qf hwf
      generalize l[i] = p at *
      go_wp2_with fail
      go_roundw
      case rel =>
        have hs2 := HROW.out.store (k := i) (by omega) HWF.out.x HWF.out.z
        have hb2 := (HB.out.setCell (show w.heap.size ≤ (⟨w.heap.size, i * 2, none⟩ : Addr).block from Nat.le_refl _) (.int .u64 (p.x : Int))).setCell (show w.heap.size ≤ (⟨w.heap.size, i * 2 + 1, none⟩ : Addr).block from Nat.le_refl _) (.int .u64 (p.z : Int))
        refine ⟨i + 1, by omega, by go_num, ?_, ?_⟩
        · rw [← HST.out]; exact hs2.below hs2.lt (below1 _ _)
        · exact hb2.trans ((below1 _ _).mono hb2.size)
      case measure => simp [intOf]; omega
    · obtain rfl : i = l.length := by omega
      have hfin : Rows wr w.heap.size (l.map xz) := by rw [← filled_all]; exact HROW.out
      have HFIN := Lib.hid hfin
      clear hfin HROW hi hlt
      go_wp2_with fail
      go_loopw [31] (fun s wr => ∃ (i : Nat) (L : List Rw), i ≤ l.length ∧ s = .int .i64 i ∧ L.length = l.length ∧ Rows wr w.heap.size L ∧ elim (L.drop i) = r ∧ Below w.heap.size w wr) (fun s _ => l.length - (intOf s).toNat)
      case atStart => exact ⟨0, _, Nat.zero_le _, rfl, by simp, HFIN.out, HRES.out, HB.out⟩
      case round =>
        clear HB HFIN
        obtain ⟨i, L, hi, rfl, hLl, hrows, hel, hb⟩ := hrel
        have HROW := Lib.hid hrows
        have HB := Lib.hid hb
        have HEL := Lib.hid hel
        have HLL := Lib.hid hLl
        clear hrows hb hel
        by_cases hlt : i < l.length
        · have hiL : i < L.length := by omega
          clear hLl
          obtain ⟨q1, q2⟩ := HROW.out.at_ i hiL
          have hd := elim_drop hiL
          rw [HEL.out] at hd
          have HD := Lib.hid hd
          have hsz : w.heap.size < wr.heap.size := HROW.out.lt
          have HU := Lib.hid (HROW.out.u _ (List.getElem_mem hiL))
          clear hd HEL
          by_cases h0 : L[i] = (0, 0)
          · have hr1 : r = true := by rw [HD.out, if_pos h0]
            subst hr1
            rw [h0] at q1 q2
            clear HD HU h0
            go_wp2_with fail
            go_ret
            exact ⟨rfl, HB.out.trans ((below1 _ _).mono HB.out.size)⟩
          · obtain ⟨L0, hL0⟩ : ∃ L0, L0 = L[i] := ⟨_, rfl⟩
            rw [← hL0] at q1 q2 HD HU h0
            rw [if_neg h0] at HD
            obtain ⟨rx, rz⟩ := L0
            simp only at q1 q2 HU
            have hz : ((rx : Int) == 0 && (rz : Int) == 0) = false := by
              rw [Bool.eq_false_iff]
              intro e
              simp at e
              exact h0 (by rw [e.1, e.2])
            have HL0 := Lib.hid hL0
            clear hL0 h0
            obtain ⟨wo, rfl⟩ : ∃ wo : World, wo = wr := ⟨_, rfl⟩
            go_wp2_with fail
            clear q1 q2 hz
            go_loopw [8] (fun s wr2 => ∃ k : Nat, i < k ∧ k ≤ l.length ∧ s = .int .i64 k ∧ InSt w wo.heap.size rx rz (cleared (rx, rz) L i k) wr2) (fun s _ => l.length - (intOf s).toNat)
            case atStart =>
              have hbo := below1 wo (.cells #[.int .u64 rx, .int .u64 rz] 83)
              have hnew := (MapKept.heap_alloc wo (.cells #[.int .u64 rx, .int .u64 rz] 83)).1
              exact ⟨i + 1, by omega, by omega, by go_num, by rw [cleared_start]; exact HROW.out.below hsz hbo, HB.out.trans (hbo.mono HB.out.size), cell_of hnew rfl, cell_of hnew rfl, by omega⟩
            case round =>
              obtain ⟨k, hik, hk, rfl, hs⟩ := hrel
              have HS := Lib.hid hs
              clear hs
              by_cases hltk : k < l.length
              · have hkL : k < L.length := by have := HLL.out; omega
                have hkC : k < (cleared (rx, rz) L i k).length := by rw [cleared_len]; exact hkL
                obtain ⟨⟨yx, yz⟩, hy⟩ : ∃ y, L[k] = y := ⟨_, rfl⟩
                have hyl : (cleared (rx, rz) L i k)[k] = (yx, yz) := by rw [cleared_get _ _ _ _ hkL]; exact hy
                have hcs := cleared_step (rx, rz) L i k hik hkL
                rw [hy] at hcs
                have HCS := Lib.hid hcs
                have HYL := Lib.hid hyl
                obtain ⟨q1, q2, f1, f2, ux, uz⟩ := HS.out.facts hkC hyl
                have r1 := HS.out.r1
                have r2 := HS.out.r2
                have lx := low_eq HU.out.1
                have lz := low_eq HU.out.2
                have ax := and_eq ux (u_low HU.out.1)
                have az := and_eq uz (u_low HU.out.2)
                have xx := xor_eq ux HU.out.1
                have xz' := xor_eq uz HU.out.2
                have HUX := Lib.hid (And.intro (u_xor ux HU.out.1) (u_xor uz HU.out.2))
                clear hcs hyl hy ux uz
                by_cases h0 : rx = 0
                · have hlx : lowb rx = 0 := by rw [h0]; rfl
                  have hlp : ((lowb rx : Int) != 0) = false := by simp [hlx]
                  have hr0 : ((rx : Int) == 0) = true := by simp [h0]
                  cases hp : (yz &&& lowb rz != 0) with
                  | true =>
                    have hit : clear (rx, rz) (yx, yz) = (yx ^^^ rx, yz ^^^ rz) := by simp [clear, hits, hlx, hp, h0, (show lowb 0 = 0 from rfl)]
                    have hpI : (((yz &&& lowb rz : Nat) : Int) != 0) = true := by simpa using hp
                    clear h0 hlx
                    rw [hit] at HCS
                    clear hit hp
                    go_wp2_with fail
                    go_quiet (fail)
                    have H1 := Lib.hid (HS.out.drewN nq)
                    clear q1 q2 f1 f2 r1 r2 HS
                    generalize wr.drewN nq = w2 at H1 ⊢
                    obtain ⟨q1, q2, f1, f2, -, -⟩ := H1.out.facts hkC HYL.out
                    have r1 := H1.out.r1
                    have r2 := H1.out.r2
                    go_wp2_with fail
                    go_still_tail 10, (by kernel_rfl)
                    go_wp2_with fail
                    have H2 := Lib.hid (H1.out.setX hkC HUX.out.1).drew
                    clear q1 q2 f1 f2 r1 r2 H1
                    generalize (w2.setCell ⟨w.heap.size, k * 2, none⟩ (.int .u64 ((yx ^^^ rx : Nat) : Int))).drew = w3 at H2 ⊢
                    have hkD : k < ((cleared (rx, rz) L i k).set k (yx ^^^ rx, (cleared (rx, rz) L i k)[k].2)).length := by simpa using hkC
                    have hyl : ((cleared (rx, rz) L i k).set k (yx ^^^ rx, (cleared (rx, rz) L i k)[k].2))[k] = (yx ^^^ rx, yz) := by simp [HYL.out]
                    obtain ⟨q1, q2, f1, f2, -, -⟩ := H2.out.facts hkD hyl
                    have HYL2 := Lib.hid hyl
                    have r1 := H2.out.r1
                    have r2 := H2.out.r2
                    clear hyl
                    go_wp2_with fail
                    go_still_tail 10, (by kernel_rfl)
                    go_wp2_with fail
                    have H3 := Lib.hid (H2.out.setZ hkD HUX.out.2).drew
                    clear q1 q2 f1 f2 r1 r2 H2
                    go_roundw
                    case rel =>
                      have h9 := H3.out
                      rw [HYL2.out] at h9
                      simp only [List.set_set] at h9
                      rw [HCS.out] at h9
                      exact ⟨k + 1, by omega, by omega, by go_num, h9⟩
                    case measure => simp [intOf]; omega
                  | false =>
                    have hit : clear (rx, rz) (yx, yz) = (yx, yz) := by simp [clear, hits, hlx, hp, h0, (show lowb 0 = 0 from rfl)]
                    have hpI : (((yz &&& lowb rz : Nat) : Int) != 0) = false := by simpa using hp
                    clear h0 hlx
                    rw [hit] at HCS
                    clear hit hp
                    go_wp2_with fail
                    go_quiet (fail)
                    have hse : (cleared (rx, rz) L i k).set k (yx, yz) = cleared (rx, rz) L i k := by rw [← HYL.out]; simp
                    have H1 := Lib.hid (HS.out.drewN nq)
                    rw [hse] at HCS
                    clear q1 q2 f1 f2 r1 r2 HS hse
                    go_wp2_with fail
                    go_roundw
                    case rel => exact ⟨k + 1, by omega, by omega, by go_num, by rw [← HCS.out]; exact H1.out⟩
                    case measure => simp [intOf]; omega
                · have hln := lowb_ne HU.out.1 h0
                  have hlp : ((lowb rx : Int) != 0) = true := by simpa using hln
                  have hr0 : ((rx : Int) == 0) = false := by simpa using h0
                  cases hp : (yx &&& lowb rx != 0) with
                  | true =>
                    have hit : clear (rx, rz) (yx, yz) = (yx ^^^ rx, yz ^^^ rz) := by simp [clear, hits, hln, hp]
                    have hpI : (((yx &&& lowb rx : Nat) : Int) != 0) = true := by simpa using hp
                    rw [hit] at HCS
                    clear hit hp
                    go_wp2_with fail
                    go_quiet (fail)
                    have H1 := Lib.hid (HS.out.drewN nq)
                    clear q1 q2 f1 f2 r1 r2 HS
                    generalize wr.drewN nq = w2 at H1 ⊢
                    obtain ⟨q1, q2, f1, f2, -, -⟩ := H1.out.facts hkC HYL.out
                    have r1 := H1.out.r1
                    have r2 := H1.out.r2
                    go_wp2_with fail
                    go_still_tail 10, (by kernel_rfl)
                    go_wp2_with fail
                    have H2 := Lib.hid (H1.out.setX hkC HUX.out.1).drew
                    clear q1 q2 f1 f2 r1 r2 H1
                    generalize (w2.setCell ⟨w.heap.size, k * 2, none⟩ (.int .u64 ((yx ^^^ rx : Nat) : Int))).drew = w3 at H2 ⊢
                    have hkD : k < ((cleared (rx, rz) L i k).set k (yx ^^^ rx, (cleared (rx, rz) L i k)[k].2)).length := by simpa using hkC
                    have hyl : ((cleared (rx, rz) L i k).set k (yx ^^^ rx, (cleared (rx, rz) L i k)[k].2))[k] = (yx ^^^ rx, yz) := by simp [HYL.out]
                    obtain ⟨q1, q2, f1, f2, -, -⟩ := H2.out.facts hkD hyl
                    have HYL2 := Lib.hid hyl
                    have r1 := H2.out.r1
                    have r2 := H2.out.r2
                    clear hyl
                    go_wp2_with fail
                    go_still_tail 10, (by kernel_rfl)
                    go_wp2_with fail
                    have H3 := Lib.hid (H2.out.setZ hkD HUX.out.2).drew
                    clear q1 q2 f1 f2 r1 r2 H2
                    go_roundw
                    case rel =>
                      have h9 := H3.out
                      rw [HYL2.out] at h9
                      simp only [List.set_set] at h9
                      rw [HCS.out] at h9
                      exact ⟨k + 1, by omega, by omega, by go_num, h9⟩
                    case measure => simp [intOf]; omega
                  | false =>
                    have hit : clear (rx, rz) (yx, yz) = (yx, yz) := by simp [clear, hits, hln, hp, h0]
                    have hpI : (((yx &&& lowb rx : Nat) : Int) != 0) = false := by simpa using hp
                    rw [hit] at HCS
                    clear hit hp
                    go_wp2_with fail
                    go_quiet (fail)
                    have hse : (cleared (rx, rz) L i k).set k (yx, yz) = cleared (rx, rz) L i k := by rw [← HYL.out]; simp
                    have H1 := Lib.hid (HS.out.drewN nq)
                    rw [hse] at HCS
                    clear q1 q2 f1 f2 r1 r2 HS hse
                    go_wp2_with fail
                    go_roundw
                    case rel => exact ⟨k + 1, by omega, by omega, by go_num, by rw [← HCS.out]; exact H1.out⟩
                    case measure => simp [intOf]; omega
              · obtain rfl : k = l.length := by omega
                have HS2 : Hid (InSt w wo.heap.size rx rz (cleared (rx, rz) L i L.length) wr) := Lib.hid (by rw [HLL.out]; exact HS.out)
                have HD2 := Lib.hid HD.out.symm
                have HLL2 : Hid ((cleared (rx, rz) L i L.length).length = l.length) := Lib.hid (by rw [cleared_len, HLL.out])
                clear HS
                go_wp2_with fail
                go_roundw
                case rel => exact ⟨i + 1, _, by omega, by go_num, HLL2.out, HS2.out.rows, by rw [HL0.out] at *; exact HD2.out, HS2.out.hb⟩
                case measure => simp [intOf]; omega
        · obtain rfl : i = L.length := by omega
          have hr0 : r = false := by rw [← HEL.out]; exact elim_end
          subst hr0
          go_wp2_with fail
          go_ret
          exact ⟨rfl, HB.out⟩
end Go.Proofs.Ytfnmembjgclhoaa.CD
