/- code.search, walked. -/
import Derived.Test.YtfnmembjgclhoaaCodQ
namespace Go.Proofs.Ytfnmembjgclhoaa.CD
open Go Go.RowKit
set_option linter.unusedVariables false
set_option linter.unusedSimpArgs false
open B (pcs ofB)

theorem pcs_mono (x z : Nat) : ∀ n, pcs n x ≤ pcs n (x ||| z)
  | 0 => Nat.le_refl _
  | n + 1 => by
    have ih := pcs_mono x z n
    rw [B.pcs_succ, B.pcs_succ, Nat.testBit_or]
    have : B.wt (x.testBit n) ≤ B.wt (x.testBit n || z.testBit n) := by cases x.testBit n <;> cases z.testBit n <;> decide
    omega
theorem pop_mono (x z : Nat) : pop x ≤ wt x z := pcs_mono x z 64
theorem wt_le {n x z : Nat} (hn : n ≤ 64) (hx : x < 2 ^ n) (hz : z < 2 ^ n) : wt x z ≤ n := by
  have h := Nat.or_lt_two_pow hx hz
  unfold wt pop
  rw [B.pcs_stop h hn]
  exact B.pcs_le n _

/-- The answer's cell, nothing below touched. -/
structure OutSt (w W : World) : Prop where
  below : Below w.heap.size w W
  lt : w.heap.size < W.heap.size
  o : Cells4 W w.heap.size 0 ⟨0, 0, 0, 0⟩
  fr : ∀ i, W.frozen? ⟨w.heap.size, i, none⟩ = false
theorem OutSt.start (w : World) : OutSt w (w.alloc (.cells #[.int .i64 0, .int .u64 0, .int .u64 0, .int .i64 0] 27)) :=
  ⟨below1 _ _, by simp, Cells4.of (p := ⟨0, 0, 0, 0⟩) (newAt _ _ rfl), fun i => free_of (newAt _ _ rfl)⟩
theorem OutSt.step {w W W' : World} (h : OutSt w W) (hb : Below W.heap.size W W') : OutSt w W' :=
  ⟨h.below.trans (hb.mono h.below.size), Nat.lt_of_lt_of_le h.lt hb.size, h.o.below h.lt hb, fun i => (hb.frozen (p := ⟨w.heap.size, i, none⟩) h.lt).trans (h.fr i)⟩

def Searched (T : Nat → Nat → Bool) (n N : Nat) (w : World) (e : Ending) (w' : World) : Prop :=
  ((∃ x z, IsFirst T N x z ∧ e = .returned (.tuple #[(Value.agg #[.int .i64 n, .int .u64 x, .int .u64 z, .int .i64 0]), .bool true])) ∨ (NoneOf T N ∧ e = .returned (.tuple #[(Value.agg #[.int .i64 0, .int .u64 0, .int .u64 0, .int .i64 0]), .bool false]))) ∧ Below w.heap.size w w'

set_option maxRecDepth 100000 in
set_option maxHeartbeats 4000000 in
theorem search_does (B : Nat) (T : Nat → Nat → Bool) (n N : Nat) (hn : n ≤ 8) (hN : N = 2 ^ n) (w : World)
    (hcl : ∀ W x z, Below w.heap.size w W → x < N → z < N → Calls Try.prog 42 #[(Value.agg #[.int .i64 n, .int .u64 x, .int .u64 z, .int .i64 0]), .pointer (some ⟨B, 0, none⟩)] W fun e w' => e = .returned (.bool (T x z)) ∧ Below W.heap.size W w') :
    Calls Try.prog 41 #[.int .i64 n, .func (.func 42) #[] #[.pointer (some ⟨B, 0, none⟩)]] w (Searched T n N w) := by
  have hsh : IntKind.u64.wrap (2 ^ n) = (N : Int) := by rw [hN]; exact shl1 (by omega)
  have hNl : N ≤ 256 := by
    rw [hN]
    exact Nat.pow_le_pow_right (by omega) hn (n := 2)
  have HWT : Hid (∀ x z, x < N → z < N → wt x z ≤ n) := Lib.hid fun x z hx hz => wt_le (by omega) (by omega) (by omega)
  have HO := Lib.hid (OutSt.start w)
  have hbd : ∀ (a b c : Int) (w : World), (Instr.build 27 #[(0, .int .i64 a), (1, .int .u64 b), (2, .int .u64 c)]).run Try.prog w = .ok (.agg #[.int .i64 a, .int .u64 b, .int .u64 c, .int .i64 0]) w := fun a b c w => run_build w 27 _ _ (by kernel_rfl)
  have hbz : ∀ (w : World), (Instr.build 27 #[]).run Try.prog w = .ok (.agg #[.int .i64 0, .int .u64 0, .int .u64 0, .int .i64 0]) w := fun w => run_build w 27 _ _ (by kernel_rfl)
  clear hN
  have HCL := Lib.hid hcl
  clear hcl
  go_enter Try.func41, Try.ntmps41
  go_wp2
  go_loopw [12] (fun s W => ∃ g : Nat, g ≤ n + 1 ∧ s = .int .i64 g ∧ (∀ x z, x < N → z < N → T x z = true → g ≤ wt x z) ∧ OutSt w W) (fun s _ => n + 1 - (intOf s).toNat)
  case atStart => exact ⟨0, by omega, rfl, fun _ _ _ _ _ => Nat.zero_le _, HO.out⟩
  case round =>
    clear HO
    obtain ⟨g, hg, rfl, hlow, ho⟩ := hrel
    have HLOW := Lib.hid hlow
    have HO := Lib.hid ho
    clear hlow ho
    by_cases hlt : g < n + 1
    · obtain ⟨wo, rfl⟩ : ∃ wo : World, wo = wr := ⟨_, rfl⟩
      have hltI : (g : Int) < (n : Int) + 1 := by omega
      go_wp2
      go_loopw [17] (fun s W => ∃ x : Nat, x ≤ N ∧ s = .int .u64 x ∧ (∀ x' z, x' < x → z < N → T x' z = true → g < wt x' z) ∧ OutSt w W) (fun s _ => N - (intOf s).toNat)
      case atStart => exact ⟨0, by omega, rfl, fun _ _ h _ _ => absurd h (Nat.not_lt_zero _), HO.out⟩
      case round =>
        clear HO
        obtain ⟨x, hx, rfl, hrows, ho⟩ := hrel
        have HROWS := Lib.hid hrows
        have HO := Lib.hid ho
        clear hrows ho
        by_cases hltx : x < N
        · have hux : U x := by unfold U; omega
          have hc1 := fun W => ones_calls x hux W
          have HUX := Lib.hid hux
          have HPM := Lib.hid (pop_mono x)
          have hpl := pop_le x
          clear hux
          generalize hpx : pop x = px at hc1 HPM hpl
          clear hpx
          obtain ⟨wo2, rfl⟩ : ∃ wo2 : World, wo2 = wr := ⟨_, rfl⟩
          by_cases hgp : px > g
          · have HJ : Hid (∀ x' z, x' < x + 1 → z < N → T x' z = true → g < wt x' z) := Lib.hid fun x' z h1 h2 h3 => by
              by_cases e : x' = x
              · subst e; have := HPM.out z; omega
              · exact HROWS.out x' z (by omega) h2 h3
            go_wp2_with (go_at_call 43; refine (hc1 _).mono ?_; rintro e w' ⟨rfl, rfl⟩)
            go_roundw
            case rel => exact ⟨x + 1, by omega, by go_num, HJ.out, HO.out⟩
            case measure => simp [intOf]; omega
          · go_wp2_with (go_at_call 43; refine (hc1 _).mono ?_; rintro e w' ⟨rfl, rfl⟩)
            go_loopw [26] (fun s W => ∃ z : Nat, z ≤ N ∧ s = .int .u64 z ∧ (∀ z', z' < z → T x z' = true → g < wt x z') ∧ OutSt w W) (fun s _ => N - (intOf s).toNat)
            case atStart => exact ⟨0, by omega, rfl, fun _ h _ => absurd h (Nat.not_lt_zero _), HO.out⟩
            case round =>
              clear HO
              obtain ⟨z, hz, rfl, hcols, ho⟩ := hrel
              have HCOLS := Lib.hid hcols
              have HO := Lib.hid ho
              clear hcols ho
              obtain ⟨-, hltw, ⟨o0, o1, o2, o3⟩, hfr⟩ := HO.out
              by_cases hltz : z < N
              · have huz : U z := by unfold U; omega
                have hor := or_eq HUX.out huz
                have hc2 := fun W => ones_calls (x ||| z) (u_or HUX.out huz) W
                have hwl : wt x z ≤ 64 := pop_le _
                have hcp := fun W h => HCL.out W x z h hltx hltz
                clear huz
                have hcu : pop (x ||| z) = wt x z := rfl
                rw [hcu] at hc2
                have HL4 := Lib.hid (HO.out.step (below1 wr (.cells #[.int .i64 n, .int .u64 x, .int .u64 z, .int .i64 0] 27)))
                have HP4 : Hid (Cells4 (wr.alloc (.cells #[.int .i64 n, .int .u64 x, .int .u64 z, .int .i64 0] 27)) wr.heap.size 0 ⟨n, x, z, 0⟩) := Lib.hid (Cells4.of (p := ⟨n, x, z, 0⟩) (newAt _ _ rfl))
                by_cases hgw : wt x z = g
                · cases hT : T x z with
                  | true =>
                    have HF : Hid (IsFirst T N x z) := Lib.hid ⟨hltx, hltz, hT, fun x' hx' z' hz' hT' => by
                      have h1 := HLOW.out x' z' hx' hz' hT'
                      by_cases h2 : wt x' z' = g
                      · right
                        refine ⟨by omega, ?_⟩
                        by_cases h3 : x' < x
                        · have := HROWS.out x' z' h3 hz' hT'; omega
                        · by_cases h4 : x' = x
                          · subst h4
                            by_cases h5 : z' < z
                            · have := HCOLS.out z' h5 hT'; omega
                            · exact .inr ⟨rfl, by omega⟩
                          · exact .inl (by omega)
                      · left; omega⟩
                    rw [hT] at hcp
                    have hgI : ((wt x z : Nat) : Int) = (g : Int) := by rw [hgw]
                    clear hT hgw
                    generalize wt x z = wxz at hc2 hwl hgI
                    clear hcu
                    go_wp2_with (first | (go_at_call 43; refine (hc2 _).mono ?_; rintro e w' ⟨rfl, rfl⟩) | (go_at_call 42; refine (hcp _ HL4.out.below).mono ?_; rintro e w' ⟨rfl, hb⟩; have HO2 := Lib.hid (HL4.out.step hb); have HP5 := HP4.out.below (by simp) hb; have hs5 : wr.heap.size < w'.heap.size := (by have hq := hb.size; simp at hq; omega); clear o0 o1 o2 o3 hfr hltw hb; obtain ⟨-, hltw, ⟨o0, o1, o2, o3⟩, hfr⟩ := HO2.out; obtain ⟨z0, z1, z2, z3⟩ := HP5; simp only at z0 z1 z2 z3))
                    refine bodyPost_ret (v := .tuple #[(Value.agg #[.int .i64 n, .int .u64 x, .int .u64 z, .int .i64 0]), .bool true]) (by simp [results, Try.results41, go_sem, *]) rfl ⟨.inl ⟨x, z, HF.out, rfl⟩, ?_⟩
                    have hB := HO2.out.below
                    have hh : w.heap.size ≤ w.heap.size := Nat.le_refl _
                    exact (((hB.setCell (p := ⟨w.heap.size, 0, none⟩) hh _).setCell (p := ⟨w.heap.size, 1, none⟩) hh _).setCell (p := ⟨w.heap.size, 2, none⟩) hh _).setCell (p := ⟨w.heap.size, 3, none⟩) hh _
                  | false =>
                    have HJ : Hid (∀ z', z' < z + 1 → T x z' = true → g < wt x z') := Lib.hid fun z' h1 h2 => by
                      by_cases e : z' = z
                      · subst e; rw [hT] at h2; cases h2
                      · exact HCOLS.out z' (by omega) h2
                    rw [hT] at hcp
                    have hgI : ((wt x z : Nat) : Int) = (g : Int) := by rw [hgw]
                    clear hT hgw
                    generalize wt x z = wxz at hc2 hwl hgI
                    clear hcu
                    go_wp2_with (first | (go_at_call 43; refine (hc2 _).mono ?_; rintro e w' ⟨rfl, rfl⟩) | (go_at_call 42; refine (hcp _ HL4.out.below).mono ?_; rintro e w' ⟨rfl, hb⟩; have HO2 := Lib.hid (HL4.out.step hb); have HP5 := HP4.out.below (by simp) hb; have hs5 : wr.heap.size < w'.heap.size := (by have hq := hb.size; simp at hq; omega); clear o0 o1 o2 o3 hfr hltw hb; obtain ⟨-, hltw, ⟨o0, o1, o2, o3⟩, hfr⟩ := HO2.out; obtain ⟨z0, z1, z2, z3⟩ := HP5; simp only at z0 z1 z2 z3))
                    go_roundw
                    case rel => exact ⟨z + 1, by omega, by go_num, HJ.out, HO2.out⟩
                    case measure => simp [intOf]; omega
                · have HJ : Hid (∀ z', z' < z + 1 → T x z' = true → g < wt x z') := Lib.hid fun z' h1 h2 => by
                    by_cases e : z' = z
                    · subst e
                      have := HLOW.out x z' hltx hltz h2
                      omega
                    · exact HCOLS.out z' (by omega) h2
                  have hgI : ¬ ((wt x z : Nat) : Int) = (g : Int) := by omega
                  clear hgw hcp
                  generalize wt x z = wxz at hc2 hwl hgI
                  clear hcu
                  go_wp2_with (go_at_call 43; refine (hc2 _).mono ?_; rintro e w' ⟨rfl, rfl⟩)
                  go_roundw
                  case rel => exact ⟨z + 1, by omega, by go_num, HJ.out, HL4.out⟩
                  case measure => simp [intOf]; omega
              · have HJ : Hid (∀ x' z, x' < x + 1 → z < N → T x' z = true → g < wt x' z) := Lib.hid fun x' z' h1 h2 h3 => by
                  by_cases e : x' = x
                  · subst e; exact HCOLS.out z' (by omega) h3
                  · exact HROWS.out x' z' (by omega) h2 h3
                go_wp2
                go_roundw
                case rel => exact ⟨x + 1, by omega, by go_num, HJ.out, HO.out⟩
                case measure => simp [intOf]; omega
        · have HJ : Hid (∀ x z, x < N → z < N → T x z = true → g + 1 ≤ wt x z) := Lib.hid fun x' z' h1 h2 h3 => HROWS.out x' z' (by omega) h2 h3
          go_wp2
          go_roundw
          case rel => exact ⟨g + 1, by omega, by go_num, HJ.out, HO.out⟩
          case measure => simp [intOf]; omega
    · have HNO : Hid (NoneOf T N) := Lib.hid fun x hx z hz => by
        cases hT : T x z with
        | false => rfl
        | true =>
          have h1 := HLOW.out x z hx hz hT
          have h2 := HWT.out x z hx hz
          omega
      obtain ⟨-, hltw, ⟨o0, o1, o2, o3⟩, hfr⟩ := HO.out
      go_wp2
      refine bodyPost_ret (v := .tuple #[(Value.agg #[.int .i64 0, .int .u64 0, .int .u64 0, .int .i64 0]), .bool false]) (by simp [results, Try.results41, go_sem, *]) rfl ⟨.inr ⟨HNO.out, rfl⟩, ?_⟩
      have hB := HO.out.below
      have hh : w.heap.size ≤ w.heap.size := Nat.le_refl _
      exact (((hB.setCell (p := ⟨w.heap.size, 0, none⟩) hh _).setCell (p := ⟨w.heap.size, 1, none⟩) hh _).setCell (p := ⟨w.heap.size, 2, none⟩) hh _).setCell (p := ⟨w.heap.size, 3, none⟩) hh _

set_option maxRecDepth 100000 in
set_option maxHeartbeats 4000000 in
theorem search_shows (B S : Nat) (T : Nat → Nat → Bool) (n N : Nat) (hn : n ≤ 8) (hN : N = 2 ^ n) (w : World)
    (hcl : ∀ W x z, Below w.heap.size w W → x < N → z < N → Calls Try.prog 45 #[(Value.agg #[.int .i64 n, .int .u64 x, .int .u64 z, .int .i64 0]), .pointer (some ⟨B, 0, none⟩), .pointer (some ⟨S, 0, none⟩)] W fun e w' => e = .returned (.bool (T x z)) ∧ Below W.heap.size W w') :
    Calls Try.prog 41 #[.int .i64 n, .func (.func 45) #[] #[.pointer (some ⟨B, 0, none⟩), .pointer (some ⟨S, 0, none⟩)]] w (Searched T n N w) := by
  have hsh : IntKind.u64.wrap (2 ^ n) = (N : Int) := by rw [hN]; exact shl1 (by omega)
  have hNl : N ≤ 256 := by
    rw [hN]
    exact Nat.pow_le_pow_right (by omega) hn (n := 2)
  have HWT : Hid (∀ x z, x < N → z < N → wt x z ≤ n) := Lib.hid fun x z hx hz => wt_le (by omega) (by omega) (by omega)
  have HO := Lib.hid (OutSt.start w)
  have hbd : ∀ (a b c : Int) (w : World), (Instr.build 27 #[(0, .int .i64 a), (1, .int .u64 b), (2, .int .u64 c)]).run Try.prog w = .ok (.agg #[.int .i64 a, .int .u64 b, .int .u64 c, .int .i64 0]) w := fun a b c w => run_build w 27 _ _ (by kernel_rfl)
  have hbz : ∀ (w : World), (Instr.build 27 #[]).run Try.prog w = .ok (.agg #[.int .i64 0, .int .u64 0, .int .u64 0, .int .i64 0]) w := fun w => run_build w 27 _ _ (by kernel_rfl)
  clear hN
  have HCL := Lib.hid hcl
  clear hcl
  go_enter Try.func41, Try.ntmps41
  go_wp2
  go_loopw [12] (fun s W => ∃ g : Nat, g ≤ n + 1 ∧ s = .int .i64 g ∧ (∀ x z, x < N → z < N → T x z = true → g ≤ wt x z) ∧ OutSt w W) (fun s _ => n + 1 - (intOf s).toNat)
  case atStart => exact ⟨0, by omega, rfl, fun _ _ _ _ _ => Nat.zero_le _, HO.out⟩
  case round =>
    clear HO
    obtain ⟨g, hg, rfl, hlow, ho⟩ := hrel
    have HLOW := Lib.hid hlow
    have HO := Lib.hid ho
    clear hlow ho
    by_cases hlt : g < n + 1
    · obtain ⟨wo, rfl⟩ : ∃ wo : World, wo = wr := ⟨_, rfl⟩
      have hltI : (g : Int) < (n : Int) + 1 := by omega
      go_wp2
      go_loopw [17] (fun s W => ∃ x : Nat, x ≤ N ∧ s = .int .u64 x ∧ (∀ x' z, x' < x → z < N → T x' z = true → g < wt x' z) ∧ OutSt w W) (fun s _ => N - (intOf s).toNat)
      case atStart => exact ⟨0, by omega, rfl, fun _ _ h _ _ => absurd h (Nat.not_lt_zero _), HO.out⟩
      case round =>
        clear HO
        obtain ⟨x, hx, rfl, hrows, ho⟩ := hrel
        have HROWS := Lib.hid hrows
        have HO := Lib.hid ho
        clear hrows ho
        by_cases hltx : x < N
        · have hux : U x := by unfold U; omega
          have hc1 := fun W => ones_calls x hux W
          have HUX := Lib.hid hux
          have HPM := Lib.hid (pop_mono x)
          have hpl := pop_le x
          clear hux
          generalize hpx : pop x = px at hc1 HPM hpl
          clear hpx
          obtain ⟨wo2, rfl⟩ : ∃ wo2 : World, wo2 = wr := ⟨_, rfl⟩
          by_cases hgp : px > g
          · have HJ : Hid (∀ x' z, x' < x + 1 → z < N → T x' z = true → g < wt x' z) := Lib.hid fun x' z h1 h2 h3 => by
              by_cases e : x' = x
              · subst e; have := HPM.out z; omega
              · exact HROWS.out x' z (by omega) h2 h3
            go_wp2_with (go_at_call 43; refine (hc1 _).mono ?_; rintro e w' ⟨rfl, rfl⟩)
            go_roundw
            case rel => exact ⟨x + 1, by omega, by go_num, HJ.out, HO.out⟩
            case measure => simp [intOf]; omega
          · go_wp2_with (go_at_call 43; refine (hc1 _).mono ?_; rintro e w' ⟨rfl, rfl⟩)
            go_loopw [26] (fun s W => ∃ z : Nat, z ≤ N ∧ s = .int .u64 z ∧ (∀ z', z' < z → T x z' = true → g < wt x z') ∧ OutSt w W) (fun s _ => N - (intOf s).toNat)
            case atStart => exact ⟨0, by omega, rfl, fun _ h _ => absurd h (Nat.not_lt_zero _), HO.out⟩
            case round =>
              clear HO
              obtain ⟨z, hz, rfl, hcols, ho⟩ := hrel
              have HCOLS := Lib.hid hcols
              have HO := Lib.hid ho
              clear hcols ho
              obtain ⟨-, hltw, ⟨o0, o1, o2, o3⟩, hfr⟩ := HO.out
              by_cases hltz : z < N
              · have huz : U z := by unfold U; omega
                have hor := or_eq HUX.out huz
                have hc2 := fun W => ones_calls (x ||| z) (u_or HUX.out huz) W
                have hwl : wt x z ≤ 64 := pop_le _
                have hcp := fun W h => HCL.out W x z h hltx hltz
                clear huz
                have hcu : pop (x ||| z) = wt x z := rfl
                rw [hcu] at hc2
                have HL4 := Lib.hid (HO.out.step (below1 wr (.cells #[.int .i64 n, .int .u64 x, .int .u64 z, .int .i64 0] 27)))
                have HP4 : Hid (Cells4 (wr.alloc (.cells #[.int .i64 n, .int .u64 x, .int .u64 z, .int .i64 0] 27)) wr.heap.size 0 ⟨n, x, z, 0⟩) := Lib.hid (Cells4.of (p := ⟨n, x, z, 0⟩) (newAt _ _ rfl))
                by_cases hgw : wt x z = g
                · cases hT : T x z with
                  | true =>
                    have HF : Hid (IsFirst T N x z) := Lib.hid ⟨hltx, hltz, hT, fun x' hx' z' hz' hT' => by
                      have h1 := HLOW.out x' z' hx' hz' hT'
                      by_cases h2 : wt x' z' = g
                      · right
                        refine ⟨by omega, ?_⟩
                        by_cases h3 : x' < x
                        · have := HROWS.out x' z' h3 hz' hT'; omega
                        · by_cases h4 : x' = x
                          · subst h4
                            by_cases h5 : z' < z
                            · have := HCOLS.out z' h5 hT'; omega
                            · exact .inr ⟨rfl, by omega⟩
                          · exact .inl (by omega)
                      · left; omega⟩
                    rw [hT] at hcp
                    have hgI : ((wt x z : Nat) : Int) = (g : Int) := by rw [hgw]
                    clear hT hgw
                    generalize wt x z = wxz at hc2 hwl hgI
                    clear hcu
                    go_wp2_with (first | (go_at_call 43; refine (hc2 _).mono ?_; rintro e w' ⟨rfl, rfl⟩) | (go_at_call 45; refine (hcp _ HL4.out.below).mono ?_; rintro e w' ⟨rfl, hb⟩; have HO2 := Lib.hid (HL4.out.step hb); have HP5 := HP4.out.below (by simp) hb; have hs5 : wr.heap.size < w'.heap.size := (by have hq := hb.size; simp at hq; omega); clear o0 o1 o2 o3 hfr hltw hb; obtain ⟨-, hltw, ⟨o0, o1, o2, o3⟩, hfr⟩ := HO2.out; obtain ⟨z0, z1, z2, z3⟩ := HP5; simp only at z0 z1 z2 z3))
                    refine bodyPost_ret (v := .tuple #[(Value.agg #[.int .i64 n, .int .u64 x, .int .u64 z, .int .i64 0]), .bool true]) (by simp [results, Try.results41, go_sem, *]) rfl ⟨.inl ⟨x, z, HF.out, rfl⟩, ?_⟩
                    have hB := HO2.out.below
                    have hh : w.heap.size ≤ w.heap.size := Nat.le_refl _
                    exact (((hB.setCell (p := ⟨w.heap.size, 0, none⟩) hh _).setCell (p := ⟨w.heap.size, 1, none⟩) hh _).setCell (p := ⟨w.heap.size, 2, none⟩) hh _).setCell (p := ⟨w.heap.size, 3, none⟩) hh _
                  | false =>
                    have HJ : Hid (∀ z', z' < z + 1 → T x z' = true → g < wt x z') := Lib.hid fun z' h1 h2 => by
                      by_cases e : z' = z
                      · subst e; rw [hT] at h2; cases h2
                      · exact HCOLS.out z' (by omega) h2
                    rw [hT] at hcp
                    have hgI : ((wt x z : Nat) : Int) = (g : Int) := by rw [hgw]
                    clear hT hgw
                    generalize wt x z = wxz at hc2 hwl hgI
                    clear hcu
                    go_wp2_with (first | (go_at_call 43; refine (hc2 _).mono ?_; rintro e w' ⟨rfl, rfl⟩) | (go_at_call 45; refine (hcp _ HL4.out.below).mono ?_; rintro e w' ⟨rfl, hb⟩; have HO2 := Lib.hid (HL4.out.step hb); have HP5 := HP4.out.below (by simp) hb; have hs5 : wr.heap.size < w'.heap.size := (by have hq := hb.size; simp at hq; omega); clear o0 o1 o2 o3 hfr hltw hb; obtain ⟨-, hltw, ⟨o0, o1, o2, o3⟩, hfr⟩ := HO2.out; obtain ⟨z0, z1, z2, z3⟩ := HP5; simp only at z0 z1 z2 z3))
                    go_roundw
                    case rel => exact ⟨z + 1, by omega, by go_num, HJ.out, HO2.out⟩
                    case measure => simp [intOf]; omega
                · have HJ : Hid (∀ z', z' < z + 1 → T x z' = true → g < wt x z') := Lib.hid fun z' h1 h2 => by
                    by_cases e : z' = z
                    · subst e
                      have := HLOW.out x z' hltx hltz h2
                      omega
                    · exact HCOLS.out z' (by omega) h2
                  have hgI : ¬ ((wt x z : Nat) : Int) = (g : Int) := by omega
                  clear hgw hcp
                  generalize wt x z = wxz at hc2 hwl hgI
                  clear hcu
                  go_wp2_with (go_at_call 43; refine (hc2 _).mono ?_; rintro e w' ⟨rfl, rfl⟩)
                  go_roundw
                  case rel => exact ⟨z + 1, by omega, by go_num, HJ.out, HL4.out⟩
                  case measure => simp [intOf]; omega
              · have HJ : Hid (∀ x' z, x' < x + 1 → z < N → T x' z = true → g < wt x' z) := Lib.hid fun x' z' h1 h2 h3 => by
                  by_cases e : x' = x
                  · subst e; exact HCOLS.out z' (by omega) h3
                  · exact HROWS.out x' z' (by omega) h2 h3
                go_wp2
                go_roundw
                case rel => exact ⟨x + 1, by omega, by go_num, HJ.out, HO.out⟩
                case measure => simp [intOf]; omega
        · have HJ : Hid (∀ x z, x < N → z < N → T x z = true → g + 1 ≤ wt x z) := Lib.hid fun x' z' h1 h2 h3 => HROWS.out x' z' (by omega) h2 h3
          go_wp2
          go_roundw
          case rel => exact ⟨g + 1, by omega, by go_num, HJ.out, HO.out⟩
          case measure => simp [intOf]; omega
    · have HNO : Hid (NoneOf T N) := Lib.hid fun x hx z hz => by
        cases hT : T x z with
        | false => rfl
        | true =>
          have h1 := HLOW.out x z hx hz hT
          have h2 := HWT.out x z hx hz
          omega
      obtain ⟨-, hltw, ⟨o0, o1, o2, o3⟩, hfr⟩ := HO.out
      go_wp2
      refine bodyPost_ret (v := .tuple #[(Value.agg #[.int .i64 0, .int .u64 0, .int .u64 0, .int .i64 0]), .bool false]) (by simp [results, Try.results41, go_sem, *]) rfl ⟨.inr ⟨HNO.out, rfl⟩, ?_⟩
      have hB := HO.out.below
      have hh : w.heap.size ≤ w.heap.size := Nat.le_refl _
      exact (((hB.setCell (p := ⟨w.heap.size, 0, none⟩) hh _).setCell (p := ⟨w.heap.size, 1, none⟩) hh _).setCell (p := ⟨w.heap.size, 2, none⟩) hh _).setCell (p := ⟨w.heap.size, 3, none⟩) hh _

end Go.Proofs.Ytfnmembjgclhoaa.CD
