/- code.Check, walked. -/
import Derived.Test.YtfnmembjgclhoaaCodH
import Derived.Test.YtfnmembjgclhoaaCodF
import Derived.BigQuiet
namespace Go.Proofs.Ytfnmembjgclhoaa.CD
open Go Go.RowKit
set_option linter.unusedVariables false
set_option linter.unusedSimpArgs false

/-- The three lists in a row. -/
structure Lsts (c : Cod) (B : Nat) (W : World) : Prop where
  lt : B < W.heap.size
  c0 : W.cell? ⟨B, 0, none⟩ = some (Value.slice c.ga c.gs.length c.gc)
  c1 : W.cell? ⟨B, 1, none⟩ = some (Value.slice c.xa c.xs.length c.xc)
  c2 : W.cell? ⟨B, 2, none⟩ = some (Value.slice c.za c.zs.length c.zc)
theorem Lsts.step {c : Cod} {B : Nat} {W W' : World} (h : Lsts c B W) (hb : Below W.heap.size W W') : Lsts c B W' :=
  ⟨Nat.lt_of_lt_of_le h.lt hb.size, (hb.cell (p := ⟨B, 0, none⟩) h.lt).trans h.c0, (hb.cell (p := ⟨B, 1, none⟩) h.lt).trans h.c1, (hb.cell (p := ⟨B, 2, none⟩) h.lt).trans h.c2⟩
structure Fits (c : Cod) (i : Nat) : Prop where
  g : 0 < i → ∀ p ∈ c.gs, Fit p c.n
  x : 1 < i → ∀ p ∈ c.xs, Fit p c.n
  z : 2 < i → ∀ p ∈ c.zs, Fit p c.n
theorem Lsts.pick {w : World} {c : Cod} {B : Nat} {W : World} (h : Lsts c B W) (hc : CodAt w c) (i : Nat) (hi : i < 3) :
    ∃ a k ps, W.cell? ⟨B, i, none⟩ = some (Value.slice a ps.length k) ∧ Row w a k ps ∧ (Fits c i → (∀ p ∈ ps, Fit p c.n) → Fits c (i + 1)) ∧ (Good c → ∀ p ∈ ps, Fit p c.n) := by
  have : i = 0 ∨ i = 1 ∨ i = 2 := by omega
  rcases this with rfl | rfl | rfl
  · exact ⟨_, _, _, h.c0, hc.g, fun f k => ⟨fun _ => k, fun h => absurd h (by omega), fun h => absurd h (by omega)⟩, fun h => h.fg⟩
  · exact ⟨_, _, _, h.c1, hc.x, fun f k => ⟨fun _ => f.g (by omega), fun _ => k, fun h => absurd h (by omega)⟩, fun h => h.fx⟩
  · exact ⟨_, _, _, h.c2, hc.z, fun f k => ⟨fun _ => f.g (by omega), fun _ => f.x (by omega), fun _ => k⟩, fun h => h.fz⟩
theorem via1 {w w' : World} {o : Obj} (h : Below (w.alloc o).heap.size (w.alloc o) w') : Below w.heap.size w w' := (below1 w o).trans (h.mono (by simp))
theorem apt_self (p : Pau) : apt p p = false := by
  simp [apt, Nat.and_comm p.z p.x]
  omega

set_option maxRecDepth 100000 in
set_option maxHeartbeats 16000000 in
theorem code_calls (c : Cod) (w : World) (hc : CodAt w c) (r : Int) (h0 : Good c → r = 0) (h1 : ¬ Good c → r = 230) :
    Calls Try.prog 10 #[(Value.agg #[.int .i64 c.n, .slice c.ga c.gs.length c.gc, .slice c.xa c.xs.length c.xc, .slice c.za c.zs.length c.zc])] w fun e w' => e = .returned (.int .i64 r) ∧ Below w.heap.size w w' := by
  have HC := Lib.hid hc
  have HBX := Lib.hid (BoxSt.start w c)
  have H0 := Lib.hid h0
  have H1 := Lib.hid h1
  have hf := fun W (h : Below w.heap.size w W) => bound_calls c.ga c.gc c.gs W (hc.g.below h) _ rfl
  have hsg := hc.g.small
  have hsx := hc.x.small
  have hsz := hc.z.small
  have hn := hc.n
  have bad : (¬ Good c) → .returned (.int .i64 (230 : Int)) = Ending.returned (.int .i64 r) := fun h => ret_int (h1 h).symm
  have mixed := mixed
  clear hc h0 h1
  obtain ⟨n, ga, gc, gs, xa, xc, xs, za, zc, zs⟩ := c
  simp only at HBX hf hsg hsx hsz hn
  have hnb : -9223372036854775808 ≤ n ∧ n ≤ 9223372036854775807 := hn
  obtain ⟨hn1, hn2⟩ := hnb
  clear hn
  by_cases A1 : n < 1
  · have HB : Hid _ := Lib.hid (bad fun h => by have := h.n1; simp only at this; omega)
    clear bad
    go_enter Try.func10, Try.ntmps10
    go_wp2
    go_ret
    exact ⟨HB.out, HBX.out.below⟩
  by_cases A2 : 64 < n
  · have HB : Hid _ := Lib.hid (bad fun h => by have := h.n2; simp only at this; omega)
    clear bad
    go_enter Try.func10, Try.ntmps10
    go_wp2
    go_ret
    exact ⟨HB.out, HBX.out.below⟩
  by_cases A3 : (gs.length : Int) + xs.length = n
  case neg =>
    have HB : Hid _ := Lib.hid (bad fun h => A3 h.len)
    clear bad
    go_enter Try.func10, Try.ntmps10
    go_wp2
    go_ret
    exact ⟨HB.out, HBX.out.below⟩
  by_cases A4 : xs.length = zs.length
  case neg =>
    have A4i : ¬ (zs.length : Int) = (xs.length : Int) := by omega
    have HB : Hid _ := Lib.hid (bad fun h => A4 h.lz.symm)
    clear bad
    go_enter Try.func10, Try.ntmps10
    go_wp2
    go_ret
    exact ⟨HB.out, HBX.out.below⟩
  obtain ⟨m, hm⟩ : ∃ m, m = xs.length := ⟨_, rfl⟩
  have hx : xs.length = m := hm.symm
  have hz : zs.length = m := by omega
  have HX := Lib.hid hx
  have HZ := Lib.hid hz
  have A4 := Lib.hid A4
  have A3' := Lib.hid A3
  simp only [hx, hz] at HBX hsx hsz A3
  clear hm
  have hgi : (m : Int) ≤ 64 := by omega
  have HL : Hid (Lsts ⟨n, ga, gc, gs, xa, xc, xs, za, zc, zs⟩ (w.heap.size + 1) ((w.alloc (.cells #[.int .i64 n, .slice ga gs.length gc, .slice xa m xc, .slice za m zc] 24)).alloc (.cells #[.slice ga gs.length gc, .slice xa m xc, .slice za m zc] 22))) := Lib.hid ⟨by simp, by simp, by simp [hx], by simp [hz]⟩
  have HBX2 := Lib.hid (HBX.out.step (below1 _ (.cells #[.slice ga gs.length gc, .slice xa m xc, .slice za m zc] 22)))
  go_enter Try.func10, Try.ntmps10
  go_wp2
  go_loopw [51] (fun s W => ∃ i : Nat, i ≤ 3 ∧ s = .int .i64 i ∧ Fits ⟨n, ga, gc, gs, xa, xc, xs, za, zc, zs⟩ i ∧ Lsts ⟨n, ga, gc, gs, xa, xc, xs, za, zc, zs⟩ (w.heap.size + 1) W ∧ BoxSt w ⟨n, ga, gc, gs, xa, xc, xs, za, zc, zs⟩ W) (fun s _ => 3 - (intOf s).toNat)
  case atStart => exact ⟨0, by omega, rfl, ⟨fun h => absurd h (by omega), fun h => absurd h (by omega), fun h => absurd h (by omega)⟩, HL.out, HBX2.out⟩
  case round =>
    clear HBX HBX2 HL
    obtain ⟨i, hi, rfl, hfi, hls, hbx⟩ := hrel
    have HFI := Lib.hid hfi
    have HL := Lib.hid hls
    have HBX := Lib.hid hbx
    clear hfi hls hbx
    by_cases hlt : i < 3
    · obtain ⟨a, k, ps, hcell, hrow, hup, hgood⟩ := HL.out.pick HC.out i hlt
      have HROW := Lib.hid hrow
      have HUP := Lib.hid (hup HFI.out)
      have HGO := Lib.hid hgood
      have hsp := hrow.small
      clear hrow hup hgood
      obtain ⟨wo, rfl⟩ : ∃ wo : World, wo = wr := ⟨_, rfl⟩
      have hltI : (i : Int) < 3 := by omega
      go_wp2
      go_loopw [57] (fun s W => ∃ j : Nat, j ≤ ps.length ∧ s = .int .i64 j ∧ (∀ (q : Nat) (hq : q < ps.length), q < j → Fit ps[q] n) ∧ Lsts ⟨n, ga, gc, gs, xa, xc, xs, za, zc, zs⟩ (w.heap.size + 1) W ∧ BoxSt w ⟨n, ga, gc, gs, xa, xc, xs, za, zc, zs⟩ W) (fun s _ => ps.length - (intOf s).toNat)
      case atStart => exact ⟨0, Nat.zero_le _, rfl, fun q _ h => absurd h (Nat.not_lt_zero _), HL.out, HBX.out⟩
      case round =>
        clear HBX HL hcell
        obtain ⟨j, hj, rfl, hin, hls, hbx⟩ := hrel
        have HIN := Lib.hid hin
        have HL := Lib.hid hls
        have HBX := Lib.hid hbx
        clear hin hls hbx
        obtain ⟨-, hltw, k0, k1, k2, k3⟩ := HBX.out
        by_cases hltj : j < ps.length
        · have hR := HROW.out.below HBX.out.below
          obtain ⟨b, o, hbl, hidx, hc0, hc1, hc2, hc3⟩ := hR.at j hltj
          have hwf := HROW.out.cell j hltj
          have HWF := Lib.hid hwf
          clear hR hwf
          by_cases hA : Fit ps[j] n
          · have HJJ : Hid (∀ (q : Nat) (hq : q < ps.length), q < j + 1 → Fit ps[q] n) := Lib.hid fun q hq hqj => by
              by_cases e : q = j
              · subst e; exact hA
              · exact HIN.out q hq (by omega)
            have hcc := fun W => fits_yes ps[j] n HWF.out hA W
            clear hA
            generalize hp : ps[j] = p at hcc hc0 hc1 hc2 hc3
            clear hp
            go_wp2_with (go_at_call 28; refine (hcc _).mono ?_; rintro e w' ⟨rfl, hb⟩; have HB2 := Lib.hid hb; clear hb)
            go_roundw
            case rel => exact ⟨j + 1, by omega, by go_num, HJJ.out, HL.out.step (via1 HB2.out), HBX.out.step (via1 HB2.out)⟩
            case measure => simp [intOf]; omega
          · have HB : Hid _ := Lib.hid (bad fun h => hA (HGO.out h _ (List.getElem_mem hltj)))
            have hcc := fun W => fits_no ps[j] n HWF.out hA W
            clear hA bad
            generalize hp : ps[j] = p at hcc hc0 hc1 hc2 hc3
            clear hp
            go_wp2_with (go_at_call 28; refine (hcc _).mono ?_; rintro e w' ⟨rfl, hb⟩; have HB2 := Lib.hid hb; clear hb)
            go_ret
            exact ⟨HB.out, HBX.out.below.trans ((via1 HB2.out).mono HBX.out.below.size)⟩
        · have HJJ : Hid (Fits ⟨n, ga, gc, gs, xa, xc, xs, za, zc, zs⟩ (i + 1)) := Lib.hid (HUP.out fun p hp => by
            obtain ⟨q, hq, rfl⟩ := List.mem_iff_getElem.1 hp
            exact HIN.out q hq (by omega))
          go_wp2
          go_roundw
          case rel => exact ⟨i + 1, by omega, by go_num, HJJ.out, HL.out, HBX.out⟩
          case measure => simp [intOf]; omega
    · obtain rfl : i = 3 := by omega
      obtain ⟨fg, fx, fz⟩ := HFI.out
      have FG := Lib.hid (fg (by omega))
      have FX := Lib.hid (fx (by omega))
      have FZ := Lib.hid (fz (by omega))
      clear fg fx fz hlt hi HFI HL
      obtain ⟨-, hltw, k0, k1, k2, k3⟩ := HBX.out
      go_wp2
      have hgb := HC.out.g.at_
      go_loopw [71] (fun s W => ∃ i : Nat, i ≤ gs.length ∧ s = .int .i64 i ∧ (∀ (q : Nat) (hq : q < gs.length) (k : Nat) (hk : k < q), q < i → apt gs[q] gs[k] = false) ∧ (∀ (q : Nat) (hq : q < gs.length), q < i → (∀ p ∈ xs, apt gs[q] p = false) ∧ ∀ p ∈ zs, apt gs[q] p = false) ∧ BoxSt w ⟨n, ga, gc, gs, xa, xc, xs, za, zc, zs⟩ W) (fun s _ => gs.length - (intOf s).toNat)
      case atStart => exact ⟨0, Nat.zero_le _, rfl, fun q _ k _ h => absurd h (Nat.not_lt_zero _), fun q _ h => absurd h (Nat.not_lt_zero _), HBX.out⟩
      case round =>
        clear HBX k0 k1 k2 k3 hltw
        obtain ⟨i, hi, rfl, hpr, hxz, hbx⟩ := hrel
        have HPR := Lib.hid hpr
        have HXZ := Lib.hid hxz
        have HBX := Lib.hid hbx
        clear hpr hxz hbx
        by_cases hlt : i < gs.length
        · rcases hgb with e | ⟨gb, go, e, hcg⟩
          · simp only at e; rw [e] at hlt; simp at hlt
          · simp only at e hcg
            have HE := Lib.hid e
            have HCG : Hid (∀ W, Below w.heap.size w W → ∀ (k : Nat) (h : k < gs.length), Cells4 W gb (go + k * 4) gs[k]) := Lib.hid (fun W hb k h => (hcg k h).below (block_lt (hcg k h).1) hb)
            have hgbl : gb < w.heap.size := block_lt (hcg i hlt).1
            clear hcg
            subst e
            obtain ⟨wo, rfl⟩ : ∃ wo : World, wo = wr := ⟨_, rfl⟩
            obtain ⟨-, hltw, k0, k1, k2, k3⟩ := HBX.out
            obtain ⟨c0, c1, c2, c3⟩ := HCG.out wo HBX.out.below i hlt
            have hgcap : gs.length ≤ gc := HC.out.g.len
            have hgcap2 : gc ≤ 9223372036854775807 := HC.out.g.cap
            have HWG := Lib.hid (HC.out.g.cell i hlt)
            generalize hg : gs[i] = g at c0 c1 c2 c3 HWG
            have HG := Lib.hid hg
            clear hg
            have HC8 : Hid (Cells4 (wo.alloc (Obj.cells #[.int .i64 g.n, .int .u64 g.x, .int .u64 g.z, .int .i64 g.ph] 27)) wo.heap.size 0 g) := Lib.hid (by simp [Cells4])
            have HBX8 := Lib.hid (HBX.out.step (below1 wo (Obj.cells #[.int .i64 g.n, .int .u64 g.x, .int .u64 g.z, .int .i64 g.ph] 27)))
            go_wp2
            go_loopw [81] (fun s W => ∃ k : Nat, k ≤ i ∧ s = .int .i64 k ∧ (∀ (q : Nat) (hq : q < gs.length), q < k → apt g gs[q] = false) ∧ BoxSt w ⟨n, some ⟨gb, go, none⟩, gc, gs, xa, xc, xs, za, zc, zs⟩ W ∧ Cells4 W wo.heap.size 0 g ∧ wo.heap.size < W.heap.size) (fun s _ => i - (intOf s).toNat)
            case atStart => exact ⟨0, Nat.zero_le _, rfl, fun q _ h => absurd h (Nat.not_lt_zero _), HBX8.out, HC8.out, by simp⟩
            case round =>
              clear HBX8 HC8 HBX k0 k1 k2 k3 hltw c0 c1 c2 c3
              obtain ⟨k, hk, rfl, hin, hbx, ⟨c0, c1, c2, c3⟩, hb8⟩ := hrel
              have HIN := Lib.hid hin
              have HBX := Lib.hid hbx
              have HC8 : Hid (Cells4 wr wo.heap.size 0 g) := Lib.hid ⟨c0, c1, c2, c3⟩
              clear hin hbx
              obtain ⟨-, hltw, k0, k1, k2, k3⟩ := HBX.out
              by_cases hltk : k < i
              · have hkg : k < gs.length := by omega
                obtain ⟨d0, d1, d2, d3⟩ := HCG.out wr HBX.out.below k hkg
                have hgl2 : gb < wr.heap.size := Nat.lt_of_lt_of_le hgbl HBX.out.below.size
                have hwf := HC.out.g.cell k hkg
                have hcc := fun W => apart_calls g gs[k] HWG.out hwf W
                clear hwf
                cases hA : apt g gs[k] with
                | false =>
                  have HJJ : Hid (∀ (q : Nat) (hq : q < gs.length), q < k + 1 → apt g gs[q] = false) := Lib.hid fun q hq hqk => by
                    by_cases e : q = k
                    · subst e; exact hA
                    · exact HIN.out q hq (by omega)
                  rw [hA] at hcc
                  clear hA
                  generalize hp : gs[k] = p at hcc d0 d1 d2 d3
                  clear hp
                  go_wp2_with (go_at_call 29; refine (hcc _).mono ?_; rintro e w' ⟨rfl, hg⟩; have HGR := Lib.hid (via1 hg.below); clear hg)
                  go_roundw
                  case rel => exact ⟨k + 1, by omega, by go_num, HJJ.out, HBX.out.step HGR.out, HC8.out.below hb8 HGR.out, Nat.lt_of_lt_of_le hb8 HGR.out.size⟩
                  case measure => simp [intOf]; omega
                | true =>
                  have HB : Hid _ := Lib.hid (bad fun h => by
                    have h2 := h.gg _ (List.getElem_mem hlt) _ (List.getElem_mem hkg)
                    rw [HG.out, hA] at h2
                    cases h2)
                  rw [hA] at hcc
                  clear hA bad
                  generalize hp : gs[k] = p at hcc d0 d1 d2 d3
                  clear hp
                  go_wp2_with (go_at_call 29; refine (hcc _).mono ?_; rintro e w' ⟨rfl, hg⟩; have HGR := Lib.hid (via1 hg.below); clear hg)
                  go_ret
                  exact ⟨HB.out, HBX.out.below.trans (HGR.out.mono HBX.out.below.size)⟩
              · have hki : k = i := by omega
                have HPR2 : Hid (∀ (q : Nat) (hq : q < gs.length) (k : Nat) (hk : k < q), q < i + 1 → apt gs[q] gs[k] = false) := Lib.hid fun q hq k' hk' hqi => by
                  by_cases e : q = i
                  · subst e; rw [HG.out]; exact HIN.out k' (by omega) (by omega)
                  · exact HPR.out q hq k' hk' (by omega)
                clear HIN HPR
                subst hki
                go_wp2
                go_loopw [92] (fun s W => ∃ j : Nat, j ≤ m ∧ s = .int .i64 j ∧ (∀ (q : Nat) (hq : q < xs.length), q < j → apt g xs[q] = false) ∧ (∀ (q : Nat) (hq : q < zs.length), q < j → apt g zs[q] = false) ∧ BoxSt w ⟨n, some ⟨gb, go, none⟩, gc, gs, xa, xc, xs, za, zc, zs⟩ W ∧ Cells4 W wo.heap.size 0 g ∧ wo.heap.size < W.heap.size) (fun s _ => m - (intOf s).toNat)
                case atStart => exact ⟨0, Nat.zero_le _, rfl, fun q _ h => absurd h (Nat.not_lt_zero _), fun q _ h => absurd h (Nat.not_lt_zero _), HBX.out, HC8.out, hb8⟩
                case round =>
                  clear HBX HC8 hb8 k0 k1 k2 k3 hltw c0 c1 c2 c3
                  obtain ⟨j, hj, rfl, hinx, hinz, hbx, ⟨c0, c1, c2, c3⟩, hb8⟩ := hrel
                  have HINX := Lib.hid hinx
                  have HINZ := Lib.hid hinz
                  have HBX := Lib.hid hbx
                  have HC8 : Hid (Cells4 wr wo.heap.size 0 g) := Lib.hid ⟨c0, c1, c2, c3⟩
                  clear hinx hinz hbx
                  obtain ⟨-, hltw, k0, k1, k2, k3⟩ := HBX.out
                  by_cases hltj : j < m
                  · have hltX : j < xs.length := by have := HX.out; omega
                    have hltZ : j < zs.length := by have := HZ.out; omega
                    obtain ⟨b, o, hbl, hidx, d0, d1, d2, d3⟩ := (HC.out.x.below HBX.out.below).at j hltX
                    obtain ⟨b', o', hbl', hidx', e0, e1, e2, e3⟩ := (HC.out.z.below HBX.out.below).at j hltZ
                    have hcX := fun W => apart_calls g xs[j] HWG.out (HC.out.x.cell j hltX) W
                    have hcZ := fun W => apart_calls g zs[j] HWG.out (HC.out.z.cell j hltZ) W
                    have HGO := fun n os (b o : Nat) h => grown_old (w := wr) n os b o h
                    simp only [hx, hz] at hidx hidx' d0 d1 d2 d3 e0 e1 e2 e3 hcX hcZ
                    cases hA : apt g xs[j] with
                    | true =>
                      have HB : Hid _ := Lib.hid (bad fun h => by
                        have h2 := h.gx _ (List.getElem_mem hlt) _ (List.getElem_mem hltX)
                        rw [HG.out, hA] at h2
                        cases h2)
                      rw [hA] at hcX
                      clear hA bad hcZ
                      generalize hp : xs[j] = p at hcX d0 d1 d2 d3
                      generalize hq : zs[j] = q at e0 e1 e2 e3
                      clear hp hq
                      go_wp2_with fail
                      refine wp_region_quiet_grown (by assumption) (by kernel_rfl) ?_
                      repeat (go_big_quiet_step (first | (go_at_call 29; with_reducible exact Calls.grown_of (hcX _))))
                      refine wpQuiet_nil ?_
                      intro _ hw'
                      obtain ⟨⟨nq, osq⟩, hw''⟩ := hw'
                      subst hw''
                      go_wp2
                      go_ret
                      exact ⟨HB.out, HBX.out.below.trans ((Grew.below ⟨_, _, rfl⟩).mono HBX.out.below.size)⟩
                    | false =>
                      cases hA2 : apt g zs[j] with
                      | true =>
                        have HB : Hid _ := Lib.hid (bad fun h => by
                          have h2 := h.gz _ (List.getElem_mem hlt) _ (List.getElem_mem hltZ)
                          rw [HG.out, hA2] at h2
                          cases h2)
                        rw [hA] at hcX
                        rw [hA2] at hcZ
                        clear hA hA2 bad
                        generalize hp : xs[j] = p at hcX d0 d1 d2 d3
                        generalize hq : zs[j] = q at hcZ e0 e1 e2 e3
                        clear hp hq
                        go_wp2_with fail
                        refine wp_region_quiet_grown (by assumption) (by kernel_rfl) ?_
                        repeat (go_big_quiet_step (first | (go_at_call 29; with_reducible exact Calls.grown_of (hcX _)) | (go_at_call 29; with_reducible exact Calls.grown_of (hcZ _))))
                        refine wpQuiet_nil ?_
                        intro _ hw'
                        obtain ⟨⟨nq, osq⟩, hw''⟩ := hw'
                        subst hw''
                        go_wp2
                        go_ret
                        exact ⟨HB.out, HBX.out.below.trans ((Grew.below ⟨_, _, rfl⟩).mono HBX.out.below.size)⟩
                      | false =>
                        have HJX : Hid (∀ (q : Nat) (hq : q < xs.length), q < j + 1 → apt g xs[q] = false) := Lib.hid fun q hq hqk => by
                          by_cases e : q = j
                          · subst e; exact hA
                          · exact HINX.out q hq (by omega)
                        have HJZ : Hid (∀ (q : Nat) (hq : q < zs.length), q < j + 1 → apt g zs[q] = false) := Lib.hid fun q hq hqk => by
                          by_cases e : q = j
                          · subst e; exact hA2
                          · exact HINZ.out q hq (by omega)
                        rw [hA] at hcX
                        rw [hA2] at hcZ
                        clear hA hA2
                        generalize hp : xs[j] = p at hcX d0 d1 d2 d3
                        generalize hq : zs[j] = q at hcZ e0 e1 e2 e3
                        clear hp hq
                        go_wp2_with fail
                        refine wp_region_quiet_grown (by assumption) (by kernel_rfl) ?_
                        repeat (go_big_quiet_step (first | (go_at_call 29; with_reducible exact Calls.grown_of (hcX _)) | (go_at_call 29; with_reducible exact Calls.grown_of (hcZ _))))
                        refine wpQuiet_nil ?_
                        intro _ hw'
                        obtain ⟨⟨nq, osq⟩, hw''⟩ := hw'
                        subst hw''
                        go_wp2
                        go_roundw
                        case rel => exact ⟨j + 1, by omega, by go_num, HJX.out, HJZ.out, HBX.out.step (Grew.below ⟨_, _, rfl⟩), HC8.out.below hb8 (Grew.below ⟨_, _, rfl⟩), Nat.lt_of_lt_of_le hb8 (Grew.below ⟨_, _, rfl⟩).size⟩
                        case measure => simp [intOf]; omega
                  · have HXZ2 : Hid (∀ (q : Nat) (hq : q < gs.length), q < k + 1 → (∀ p ∈ xs, apt gs[q] p = false) ∧ ∀ p ∈ zs, apt gs[q] p = false) := Lib.hid fun q hq hqi => by
                      by_cases e : q = k
                      · subst e
                        rw [HG.out]
                        refine ⟨fun p hp => ?_, fun p hp => ?_⟩
                        · obtain ⟨t, ht, rfl⟩ := List.mem_iff_getElem.1 hp
                          exact HINX.out t ht (by have := HX.out; omega)
                        · obtain ⟨t, ht, rfl⟩ := List.mem_iff_getElem.1 hp
                          exact HINZ.out t ht (by have := HZ.out; omega)
                      · exact HXZ.out q hq (by omega)
                    clear HINX HINZ HXZ
                    go_wp2
                    go_roundw
                    case rel => exact ⟨k + 1, by omega, by go_num, HPR2.out, HXZ2.out, HBX.out⟩
                    case measure => simp [intOf]; omega
        · have HPG : Hid (∀ p ∈ gs, ∀ q ∈ gs, apt p q = false) := Lib.hid fun p hp q hq => by
            obtain ⟨u, hu, rfl⟩ := List.mem_iff_getElem.1 hp
            obtain ⟨v, hv, rfl⟩ := List.mem_iff_getElem.1 hq
            rcases Nat.lt_trichotomy v u with h | h | h
            · exact HPR.out u hu v h (by omega)
            · subst h; exact apt_self _
            · rw [apt_comm]; exact HPR.out v hv u h (by omega)
          have HXG : Hid (∀ p ∈ gs, ∀ q ∈ xs, apt p q = false) := Lib.hid fun p hp => by
            obtain ⟨u, hu, rfl⟩ := List.mem_iff_getElem.1 hp
            exact (HXZ.out u hu (by omega)).1
          have HZG : Hid (∀ p ∈ gs, ∀ q ∈ zs, apt p q = false) := Lib.hid fun p hp => by
            obtain ⟨u, hu, rfl⟩ := List.mem_iff_getElem.1 hp
            exact (HXZ.out u hu (by omega)).2
          clear HPR HXZ
          obtain ⟨-, hltw, k0, k1, k2, k3⟩ := HBX.out
          go_wp2
          go_loopw [116] (fun s W => ∃ i : Nat, i ≤ m ∧ s = .int .i64 i ∧ (∀ (u : Nat) (hu : u < xs.length) (hu2 : u < zs.length) (q : Nat) (hq : q < xs.length) (hq2 : q < zs.length), u < i → apt xs[u] xs[q] = false ∧ apt zs[u] zs[q] = false ∧ apt xs[u] zs[q] = decide (u = q)) ∧ BoxSt w ⟨n, ga, gc, gs, xa, xc, xs, za, zc, zs⟩ W) (fun s _ => m - (intOf s).toNat)
          case atStart => exact ⟨0, Nat.zero_le _, rfl, fun u _ _ q _ _ h => absurd h (Nat.not_lt_zero _), HBX.out⟩
          case round =>
            clear HBX k0 k1 k2 k3 hltw
            obtain ⟨i, hi, rfl, hall, hbx⟩ := hrel
            have HALL := Lib.hid hall
            have HBX := Lib.hid hbx
            clear hall hbx
            obtain ⟨-, hltw, k0, k1, k2, k3⟩ := HBX.out
            by_cases hlti : i < m
            · have hiX : i < xs.length := by have := HX.out; omega
              have hiZ : i < zs.length := by have := HZ.out; omega
              obtain ⟨wo, rfl⟩ : ∃ wo : World, wo = wr := ⟨_, rfl⟩
              go_wp2
              go_loopw [122] (fun s W => ∃ j : Nat, j ≤ m ∧ s = .int .i64 j ∧ (∀ (q : Nat) (hq : q < xs.length) (hq2 : q < zs.length), q < j → apt xs[i] xs[q] = false ∧ apt zs[i] zs[q] = false ∧ apt xs[i] zs[q] = decide (i = q)) ∧ BoxSt w ⟨n, ga, gc, gs, xa, xc, xs, za, zc, zs⟩ W) (fun s _ => m - (intOf s).toNat)
              case atStart => exact ⟨0, Nat.zero_le _, rfl, fun q _ _ h => absurd h (Nat.not_lt_zero _), HBX.out⟩
              case round =>
                clear HBX k0 k1 k2 k3 hltw
                obtain ⟨j, hj, rfl, hin, hbx⟩ := hrel
                have HIN := Lib.hid hin
                have HBX := Lib.hid hbx
                clear hin hbx
                obtain ⟨-, hltw, k0, k1, k2, k3⟩ := HBX.out
                by_cases hltj : j < m
                · have hjX : j < xs.length := by have := HX.out; omega
                  have hjZ : j < zs.length := by have := HZ.out; omega
                  obtain ⟨b, o, hbl, hidx, d0, d1, d2, d3⟩ := (HC.out.x.below HBX.out.below).at i hiX
                  obtain ⟨b2, o2, hbl2, hidx2, e0, e1, e2, e3⟩ := (HC.out.z.below HBX.out.below).at i hiZ
                  have HGO := fun n os (b o : Nat) h => grown_old (w := wr) n os b o h
                  by_cases hij : i = j
                  · subst hij
                    have hXX := fun W => apart_calls xs[i] xs[i] (HC.out.x.cell i hiX) (HC.out.x.cell i hiX) W
                    have hZZ := fun W => apart_calls zs[i] zs[i] (HC.out.z.cell i hiZ) (HC.out.z.cell i hiZ) W
                    have hXZ := fun W => apart_calls xs[i] zs[i] (HC.out.x.cell i hiX) (HC.out.z.cell i hiZ) W
                    rw [apt_self] at hXX hZZ
                    simp only [hx, hz] at hidx hidx2 d0 d1 d2 d3 e0 e1 e2 e3 hXX hZZ hXZ
                    cases hA : apt xs[i] zs[i] with
                    | false =>
                      have HB : Hid _ := Lib.hid (bad fun h => by
                        have h2 := h.xz i hiX i hiZ
                        simp only at h2
                        rw [hA] at h2
                        simp at h2)
                      rw [hA] at hXZ
                      clear hA bad
                      generalize hp : xs[i] = p at hXX hXZ d0 d1 d2 d3
                      generalize hp2 : zs[i] = p2 at hZZ hXZ e0 e1 e2 e3
                      have HPa := Lib.hid hp
                      have HPb := Lib.hid hp2
                      clear hp hp2
                      go_wp2_with fail
                      refine wp_region_quiet_grown (by assumption) (by kernel_rfl) ?_
                      repeat (go_big_quiet_step (first | (go_at_call 29; with_reducible exact Calls.grown_of (hXX _)) | (go_at_call 29; with_reducible exact Calls.grown_of (hZZ _)) | (go_at_call 29; with_reducible exact Calls.grown_of (hXZ _))))
                      refine wpQuiet_nil ?_
                      intro _ hw'
                      obtain ⟨⟨nq, osq⟩, hw''⟩ := hw'
                      subst hw''
                      go_wp2
                      go_ret
                      exact ⟨HB.out, HBX.out.below.trans ((Grew.below ⟨_, _, rfl⟩).mono HBX.out.below.size)⟩
                    | true =>
                      have HJJ : Hid (∀ (q : Nat) (hq : q < xs.length) (hq2 : q < zs.length), q < i + 1 → apt xs[i] xs[q] = false ∧ apt zs[i] zs[q] = false ∧ apt xs[i] zs[q] = decide (i = q)) := Lib.hid fun q hq hq2 hqk => by
                        by_cases e : q = i
                        · subst e; exact ⟨apt_self _, apt_self _, by simp [hA]⟩
                        · exact HIN.out q hq hq2 (by omega)
                      rw [hA] at hXZ
                      clear hA
                      generalize hp : xs[i] = p at hXX hXZ d0 d1 d2 d3
                      generalize hp2 : zs[i] = p2 at hZZ hXZ e0 e1 e2 e3
                      have HPa := Lib.hid hp
                      have HPb := Lib.hid hp2
                      clear hp hp2
                      go_wp2_with fail
                      refine wp_region_quiet_grown (by assumption) (by kernel_rfl) ?_
                      repeat (go_big_quiet_step (first | (go_at_call 29; with_reducible exact Calls.grown_of (hXX _)) | (go_at_call 29; with_reducible exact Calls.grown_of (hZZ _)) | (go_at_call 29; with_reducible exact Calls.grown_of (hXZ _))))
                      refine wpQuiet_nil ?_
                      intro _ hw'
                      obtain ⟨⟨nq, osq⟩, hw''⟩ := hw'
                      subst hw''
                      go_wp2
                      go_roundw
                      case rel =>
                        have hjj := HJJ.out
                        rw [HPa.out, HPb.out] at hjj
                        exact ⟨i + 1, by omega, by go_num, hjj, HBX.out.step (Grew.below ⟨_, _, rfl⟩)⟩
                      case measure => simp [intOf]; omega
                  · have hij2 : ((i : Int) == (j : Int)) = false := by simp; omega
                    obtain ⟨b3, o3, hbl3, hidx3, f0, f1, f2, f3⟩ := (HC.out.x.below HBX.out.below).at j hjX
                    obtain ⟨b4, o4, hbl4, hidx4, l0, l1, l2, l3⟩ := (HC.out.z.below HBX.out.below).at j hjZ
                    have hXX := fun W => apart_calls xs[i] xs[j] (HC.out.x.cell i hiX) (HC.out.x.cell j hjX) W
                    have hZZ := fun W => apart_calls zs[i] zs[j] (HC.out.z.cell i hiZ) (HC.out.z.cell j hjZ) W
                    have hXZ := fun W => apart_calls xs[i] zs[j] (HC.out.x.cell i hiX) (HC.out.z.cell j hjZ) W
                    simp only [hx, hz] at hidx hidx2 hidx3 hidx4 d0 d1 d2 d3 e0 e1 e2 e3 f0 f1 f2 f3 l0 l1 l2 l3 hXX hZZ hXZ
                    cases hA : apt xs[i] xs[j] with
                    | true =>
                      have HB : Hid _ := Lib.hid (bad fun h => by
                        have h2 := h.xx _ (List.getElem_mem hiX) _ (List.getElem_mem hjX)
                        rw [hA] at h2
                        cases h2)
                      rw [hA] at hXX
                      clear hA bad
                      generalize hp : xs[i] = p at hXX hXZ d0 d1 d2 d3
                      generalize hp2 : zs[i] = p2 at hZZ e0 e1 e2 e3
                      generalize hq : xs[j] = q at hXX f0 f1 f2 f3
                      generalize hq2 : zs[j] = q2 at hZZ hXZ l0 l1 l2 l3
                      have HPa := Lib.hid hp
                      have HPb := Lib.hid hp2
                      clear hp hp2 hq hq2
                      go_wp2_with fail
                      refine wp_region_quiet_grown (by assumption) (by kernel_rfl) ?_
                      repeat (go_big_quiet_step (first | (go_at_call 29; with_reducible exact Calls.grown_of (hXX _)) | (go_at_call 29; with_reducible exact Calls.grown_of (hZZ _)) | (go_at_call 29; with_reducible exact Calls.grown_of (hXZ _))))
                      refine wpQuiet_nil ?_
                      intro _ hw'
                      obtain ⟨⟨nq, osq⟩, hw''⟩ := hw'
                      subst hw''
                      go_wp2
                      go_ret
                      exact ⟨HB.out, HBX.out.below.trans ((Grew.below ⟨_, _, rfl⟩).mono HBX.out.below.size)⟩
                    | false =>
                      cases hA2 : apt zs[i] zs[j] with
                      | true =>
                        have HB : Hid _ := Lib.hid (bad fun h => by
                          have h2 := h.zz _ (List.getElem_mem hiZ) _ (List.getElem_mem hjZ)
                          rw [hA2] at h2
                          cases h2)
                        rw [hA] at hXX
                        rw [hA2] at hZZ
                        clear hA hA2 bad
                        generalize hp : xs[i] = p at hXX hXZ d0 d1 d2 d3
                        generalize hp2 : zs[i] = p2 at hZZ e0 e1 e2 e3
                        generalize hq : xs[j] = q at hXX f0 f1 f2 f3
                        generalize hq2 : zs[j] = q2 at hZZ hXZ l0 l1 l2 l3
                        have HPa := Lib.hid hp
                        have HPb := Lib.hid hp2
                        clear hp hp2 hq hq2
                        go_wp2_with fail
                        refine wp_region_quiet_grown (by assumption) (by kernel_rfl) ?_
                        repeat (go_big_quiet_step (first | (go_at_call 29; with_reducible exact Calls.grown_of (hXX _)) | (go_at_call 29; with_reducible exact Calls.grown_of (hZZ _)) | (go_at_call 29; with_reducible exact Calls.grown_of (hXZ _))))
                        refine wpQuiet_nil ?_
                        intro _ hw'
                        obtain ⟨⟨nq, osq⟩, hw''⟩ := hw'
                        subst hw''
                        go_wp2
                        go_ret
                        exact ⟨HB.out, HBX.out.below.trans ((Grew.below ⟨_, _, rfl⟩).mono HBX.out.below.size)⟩
                      | false =>
                        cases hA3 : apt xs[i] zs[j] with
                        | true =>
                          have HB : Hid _ := Lib.hid (bad fun h => by
                            have h2 := h.xz i hiX j hjZ
                            simp only at h2
                            rw [hA3] at h2
                            simp [hij] at h2)
                          rw [hA] at hXX
                          rw [hA2] at hZZ
                          rw [hA3] at hXZ
                          clear hA hA2 hA3 bad
                          generalize hp : xs[i] = p at hXX hXZ d0 d1 d2 d3
                          generalize hp2 : zs[i] = p2 at hZZ e0 e1 e2 e3
                          generalize hq : xs[j] = q at hXX f0 f1 f2 f3
                          generalize hq2 : zs[j] = q2 at hZZ hXZ l0 l1 l2 l3
                          have HPa := Lib.hid hp
                          have HPb := Lib.hid hp2
                          clear hp hp2 hq hq2
                          go_wp2_with fail
                          refine wp_region_quiet_grown (by assumption) (by kernel_rfl) ?_
                          repeat (go_big_quiet_step (first | (go_at_call 29; with_reducible exact Calls.grown_of (hXX _)) | (go_at_call 29; with_reducible exact Calls.grown_of (hZZ _)) | (go_at_call 29; with_reducible exact Calls.grown_of (hXZ _))))
                          refine wpQuiet_nil ?_
                          intro _ hw'
                          obtain ⟨⟨nq, osq⟩, hw''⟩ := hw'
                          subst hw''
                          go_wp2
                          go_ret
                          exact ⟨HB.out, HBX.out.below.trans ((Grew.below ⟨_, _, rfl⟩).mono HBX.out.below.size)⟩
                        | false =>
                          have HJJ : Hid (∀ (q : Nat) (hq : q < xs.length) (hq2 : q < zs.length), q < j + 1 → apt xs[i] xs[q] = false ∧ apt zs[i] zs[q] = false ∧ apt xs[i] zs[q] = decide (i = q)) := Lib.hid fun q hq hq2 hqk => by
                            by_cases e : q = j
                            · subst e; exact ⟨hA, hA2, by simp [hA3, hij]⟩
                            · exact HIN.out q hq hq2 (by omega)
                          rw [hA] at hXX
                          rw [hA2] at hZZ
                          rw [hA3] at hXZ
                          clear hA hA2 hA3
                          generalize hp : xs[i] = p at hXX hXZ d0 d1 d2 d3
                          generalize hp2 : zs[i] = p2 at hZZ e0 e1 e2 e3
                          generalize hq : xs[j] = q at hXX f0 f1 f2 f3
                          generalize hq2 : zs[j] = q2 at hZZ hXZ l0 l1 l2 l3
                          have HPa := Lib.hid hp
                          have HPb := Lib.hid hp2
                          clear hp hp2 hq hq2
                          go_wp2_with fail
                          refine wp_region_quiet_grown (by assumption) (by kernel_rfl) ?_
                          repeat (go_big_quiet_step (first | (go_at_call 29; with_reducible exact Calls.grown_of (hXX _)) | (go_at_call 29; with_reducible exact Calls.grown_of (hZZ _)) | (go_at_call 29; with_reducible exact Calls.grown_of (hXZ _))))
                          refine wpQuiet_nil ?_
                          intro _ hw'
                          obtain ⟨⟨nq, osq⟩, hw''⟩ := hw'
                          subst hw''
                          go_wp2
                          go_roundw
                          case rel =>
                            have hjj := HJJ.out
                            rw [HPa.out, HPb.out] at hjj
                            exact ⟨j + 1, by omega, by go_num, hjj, HBX.out.step (Grew.below ⟨_, _, rfl⟩)⟩
                          case measure => simp [intOf]; omega
                · have HJJ : Hid (∀ (u : Nat) (hu : u < xs.length) (hu2 : u < zs.length) (q : Nat) (hq : q < xs.length) (hq2 : q < zs.length), u < i + 1 → apt xs[u] xs[q] = false ∧ apt zs[u] zs[q] = false ∧ apt xs[u] zs[q] = decide (u = q)) := Lib.hid fun u hu hu2 q hq hq2 huq => by
                    by_cases e : u = i
                    · subst e; exact HIN.out q hq hq2 (by have := HX.out; omega)
                    · exact HALL.out u hu hu2 q hq hq2 (by omega)
                  go_wp2
                  go_roundw
                  case rel => exact ⟨i + 1, by omega, by go_num, HJJ.out, HBX.out⟩
                  case measure => simp [intOf]; omega
            · have HG : Hid (∀ (h : elim (gs.map CD.xz) = false), r = 0) := Lib.hid fun h => H0.out ⟨by show (1 : Int) ≤ n; omega, by show n ≤ (64 : Int); omega, A3'.out, A4.out.symm, FG.out, FX.out, FZ.out, HPG.out, HXG.out, HZG.out,
                fun p hp q hq => by
                  obtain ⟨u, hu, rfl⟩ := List.mem_iff_getElem.1 hp
                  obtain ⟨v, hv, rfl⟩ := List.mem_iff_getElem.1 hq
                  have hu' : u < xs.length := hu
                  have hv' : v < xs.length := hv
                  have h1 := A4.out
                  have h2 := HX.out
                  exact (HALL.out u hu' (by omega) v hv' (by omega) (by omega)).1,
                fun p hp q hq => by
                  obtain ⟨u, hu, rfl⟩ := List.mem_iff_getElem.1 hp
                  obtain ⟨v, hv, rfl⟩ := List.mem_iff_getElem.1 hq
                  have hu' : u < zs.length := hu
                  have hv' : v < zs.length := hv
                  have h1 := A4.out
                  have h2 := HX.out
                  exact (HALL.out u (by omega) hu' v (by omega) hv' (by omega)).2.1,
                fun u hu v hv => by
                  have hu' : u < xs.length := hu
                  have hv' : v < zs.length := hv
                  have h1 := A4.out
                  have h2 := HX.out
                  exact (HALL.out u hu' (by omega) v (by omega) hv' (by omega)).2.2, h⟩
              cases hE : elim (gs.map CD.xz) with
              | true =>
                have HB : Hid _ := Lib.hid (bad fun h => by have h2 := h.free; simp only at h2; rw [hE] at h2; cases h2)
                rw [hE] at hf
                clear bad hE HG
                go_wp2_with (go_at_call 30; with_reducible refine (hf _ HBX.out.below).mono ?_; rintro e w' ⟨rfl, hb⟩; replace HBX := Lib.hid (HBX.out.step hb); clear hb)
                go_ret
                exact ⟨HB.out, HBX.out.below⟩
              | false =>
                have HR : Hid (r = 0) := Lib.hid (HG.out hE)
                rw [hE] at hf
                clear bad hE HG
                go_wp2_with (go_at_call 30; with_reducible refine (hf _ HBX.out.below).mono ?_; rintro e w' ⟨rfl, hb⟩; replace HBX := Lib.hid (HBX.out.step hb); clear hb)
                go_ret
                exact ⟨by rw [HR.out]; rfl, HBX.out.below⟩
end Go.Proofs.Ytfnmembjgclhoaa.CD
