/- The document's Distance: walked. -/
import Derived.Test.YtfnmembjgclhoaaCodV
namespace Go.Proofs.Ytfnmembjgclhoaa.CD
open Go Go.RowKit
set_option linter.unusedVariables false
set_option linter.unusedSimpArgs false
open B (pcs ofB)

theorem pcs_none (x : Nat) : ∀ n, pcs n x = 0 → ∀ i, i < n → x.testBit i = false
  | 0, _, i, hi => absurd hi (Nat.not_lt_zero _)
  | n + 1, h, i, hi => by
    rw [B.pcs_succ] at h
    have h1 : pcs n x = 0 := by omega
    by_cases e : i = n
    · subst e
      cases hb : x.testBit i with
      | false => rfl
      | true => rw [hb] at h; simp [B.wt] at h
    · exact pcs_none x n h1 i (by omega)
theorem pop_none {x : Nat} (hx : U x) (h : pop x = 0) : x = 0 := by
  apply Nat.eq_of_testBit_eq
  intro i
  rw [Nat.zero_testBit]
  by_cases hi : i < 64
  · exact pcs_none x 64 h i hi
  · exact Nat.testBit_lt_two_pow (Nat.lt_of_lt_of_le hx (Nat.pow_le_pow_right (by omega) (by omega)))
theorem pop_nought : pop 0 = 0 := by decide
theorem apt_none (a : Pau) (n ph : Int) : apt a ⟨n, 0, 0, ph⟩ = false := by simp [apt, pop_nought]
theorem aps_none (l : List Pau) (n ph : Int) : aps l ⟨n, 0, 0, ph⟩ = fun _ => false := by
  funext i
  unfold aps
  cases l[i]? with
  | none => rfl
  | some g => exact apt_none g n ph
theorem ofB_none : ∀ n, ofB (fun _ => false) n = 0
  | 0 => rfl
  | n + 1 => by rw [← no_bit rfl]; exact ofB_none n
theorem does_none (c : Cod) : TD c 0 0 = false := by simp [TD, does, logic, aps_none, ofB_none]
theorem wt_pos {c : Cod} {x z : Nat} (hx : U x) (hz : U z) (h : TD c x z = true) : 0 < wt x z := by
  refine Nat.pos_of_ne_zero fun h0 => ?_
  have h1 := pop_none (u_or hx hz) h0
  have h2 : x = 0 := by
    apply Nat.eq_of_testBit_eq
    intro i
    have := congrArg (fun k => k.testBit i) h1
    simp at this
    simp [this.1]
  have h3 : z = 0 := by
    apply Nat.eq_of_testBit_eq
    intro i
    have := congrArg (fun k => k.testBit i) h1
    simp at this
    simp [this.2]
  subst h2 h3
  rw [does_none] at h
  cases h

/-! there is a first one -/
theorem first_exists (T : Nat → Nat → Bool) (N : Nat) : ∀ (m x z : Nat), wt x z * (N * N) + x * N + z ≤ m → x < N → z < N → T x z = true → ∃ x z, IsFirst T N x z := by
  intro m
  induction m with
  | zero =>
    intro x z hm hx hz hT
    refine ⟨x, z, hx, hz, hT, fun x' hx' z' hz' hT' => ?_⟩
    have h1 : x * N = 0 := by omega
    have h3 : x = 0 := by
      rcases Nat.mul_eq_zero.1 h1 with h | h
      · exact h
      · omega
    have h2 : wt x z * (N * N) = 0 := by omega
    have h4 : wt x z = 0 := by
      rcases Nat.mul_eq_zero.1 h2 with h | h
      · exact h
      · rcases Nat.mul_eq_zero.1 h with h | h <;> omega
    omega
  | succ m ih =>
    intro x z hm hx hz hT
    by_cases h : ∃ x' z', x' < N ∧ z' < N ∧ T x' z' = true ∧ wt x' z' * (N * N) + x' * N + z' ≤ m
    · obtain ⟨x', z', h1, h2, h3, h4⟩ := h
      exact ih x' z' h4 h1 h2 h3
    · refine ⟨x, z, hx, hz, hT, fun x' hx' z' hz' hT' => ?_⟩
      have h5 : ¬ wt x' z' * (N * N) + x' * N + z' ≤ m := fun h4 => h ⟨x', z', hx', hz', hT', h4⟩
      have e1 : wt x z * (N * N) + x * N + z ≤ wt x' z' * (N * N) + x' * N + z' := by omega
      by_cases c1 : wt x z < wt x' z'
      · exact .inl c1
      · have g1 : x' * N + z' < N * N := by
          have : (x' + 1) * N ≤ N * N := Nat.mul_le_mul_right N hx'
          rw [Nat.succ_mul] at this
          omega
        have c2 : wt x z = wt x' z' := by
          by_cases c3 : wt x' z' < wt x z
          · have : (wt x' z' + 1) * (N * N) ≤ wt x z * (N * N) := Nat.mul_le_mul_right _ c3
            rw [Nat.succ_mul] at this
            omega
          · omega
        refine .inr ⟨c2, ?_⟩
        rw [c2] at e1
        by_cases c4 : x < x'
        · exact .inl c4
        · by_cases c5 : x = x'
          · subst c5; exact .inr ⟨rfl, by omega⟩
          · have : (x' + 1) * N ≤ x * N := Nat.mul_le_mul_right N (by omega)
            rw [Nat.succ_mul] at this
            omega
theorem first_of {T : Nat → Nat → Bool} {N x z : Nat} (hx : x < N) (hz : z < N) (hT : T x z = true) : ∃ x z, IsFirst T N x z := first_exists T N _ x z (Nat.le_refl _) hx hz hT

/-! what the scan has seen -/
def bef (N x z x' z' : Nat) : Prop := x' < x ∧ z' < N ∨ x' = x ∧ z' < z
theorem bef_succ {N x z x' z' : Nat} : bef N x (z + 1) x' z' ↔ bef N x z x' z' ∨ (x' = x ∧ z' = z) := by unfold bef; omega
theorem bef_row {N x x' z' : Nat} : bef N (x + 1) 0 x' z' ↔ bef N x N x' z' := by unfold bef; omega
def Best (T : Nat → Nat → Bool) (N x z b : Nat) : Prop :=
  (b = 0 ∧ ∀ x' z', bef N x z x' z' → T x' z' = false) ∨ ∃ x0 z0, bef N x z x0 z0 ∧ T x0 z0 = true ∧ wt x0 z0 = b ∧ 0 < b ∧ ∀ x' z', bef N x z x' z' → T x' z' = true → b ≤ wt x' z'
theorem Best.start (T : Nat → Nat → Bool) (N : Nat) : Best T N 0 0 0 := .inl ⟨rfl, fun x' z' h => by unfold bef at h; omega⟩
theorem Best.row {T : Nat → Nat → Bool} {N x b : Nat} (h : Best T N x N b) : Best T N (x + 1) 0 b := by
  unfold Best at h ⊢
  simp only [bef_row]
  exact h
theorem Best.skip {T : Nat → Nat → Bool} {N x z b : Nat} (h : Best T N x z b) (hT : T x z = false) : Best T N x (z + 1) b := by
  unfold Best at h ⊢
  simp only [bef_succ]
  rcases h with ⟨h0, h1⟩ | ⟨x0, z0, h1, h2, h3, h4, h5⟩
  · refine .inl ⟨h0, fun x' z' h => ?_⟩
    rcases h with h | ⟨rfl, rfl⟩
    · exact h1 x' z' h
    · exact hT
  · refine .inr ⟨x0, z0, .inl h1, h2, h3, h4, fun x' z' h hh => ?_⟩
    rcases h with h | ⟨rfl, rfl⟩
    · exact h5 x' z' h hh
    · rw [hT] at hh; cases hh
theorem Best.keep {T : Nat → Nat → Bool} {N x z b : Nat} (h : Best T N x z b) (hb : 0 < b) (hw : b ≤ wt x z) : Best T N x (z + 1) b := by
  unfold Best at h ⊢
  simp only [bef_succ]
  rcases h with ⟨h0, h1⟩ | ⟨x0, z0, h1, h2, h3, h4, h5⟩
  · omega
  · refine .inr ⟨x0, z0, .inl h1, h2, h3, h4, fun x' z' h hh => ?_⟩
    rcases h with h | ⟨rfl, rfl⟩
    · exact h5 x' z' h hh
    · exact hw
theorem Best.take {T : Nat → Nat → Bool} {N x z b : Nat} (h : Best T N x z b) (hT : T x z = true) (hp : 0 < wt x z) (hb : b = 0 ∨ wt x z < b) : Best T N x (z + 1) (wt x z) := by
  unfold Best at h ⊢
  simp only [bef_succ]
  refine .inr ⟨x, z, .inr ⟨rfl, rfl⟩, hT, rfl, hp, fun x' z' h' hh => ?_⟩
  rcases h' with h' | ⟨rfl, rfl⟩
  · rcases h with ⟨h0, h1⟩ | ⟨x0, z0, h1, h2, h3, h4, h5⟩
    · rw [h1 x' z' h'] at hh; cases hh
    · have := h5 x' z' h' hh; omega
  · exact Nat.le_refl _
theorem Best.dist {c : Cod} {b : Nat} (h : Best (TD c) (nn c) (nn c) 0 b) : IsDist c b := by
  have hb : ∀ x z, x < nn c → z < nn c → bef (nn c) (nn c) 0 x z := fun x z hx hz => .inl ⟨hx, hz⟩
  have hb' : ∀ x z, bef (nn c) (nn c) 0 x z → x < nn c ∧ z < nn c := fun x z h => by unfold bef at h; omega
  rcases h with ⟨rfl, h1⟩ | ⟨x0, z0, h1, h2, h3, h4, h5⟩
  · exact .inr ⟨fun x hx z hz => h1 x z (hb x z hx hz), rfl⟩
  · obtain ⟨hx0, hz0⟩ := hb' x0 z0 h1
    obtain ⟨x, z, hf⟩ := first_of hx0 hz0 h2
    refine .inl ⟨x, z, hf, ?_⟩
    have a1 := hf.first x0 hx0 z0 hz0 h2
    have a2 := h5 x z (hb x z hf.xlt hf.zlt) hf.yes
    have : b = wt x z := by omega
    rw [this]

/-- A code's box and a string's, wherever that is. -/
structure BP (w : World) (c : Cod) (P : Nat) (p : Pau) (W : World) : Prop where
  box : BoxSt w c W
  p : Cells4 W P 0 p
  lt : P < W.heap.size
theorem BP.step {w W W' : World} {c : Cod} {P : Nat} {p : Pau} (h : BP w c P p W) (hb : Below W.heap.size W W') : BP w c P p W' :=
  ⟨h.box.step hb, h.p.below h.lt hb, Nat.lt_of_lt_of_le h.lt hb.size⟩
theorem BP.start {w W : World} {c : Cod} (h : BoxSt w c W) (p : Pau) : BP w c W.heap.size p (W.alloc (Obj.cells #[.int .i64 p.n, .int .u64 p.x, .int .u64 p.z, .int .i64 p.ph] 27)) :=
  ⟨h.step (below1 _ _), Cells4.of (newAt _ _ rfl), by simp⟩
theorem wt_le64 (x z : Nat) : wt x z ≤ 64 := pop_le _

theorem or_none {a b : Nat} (h : a ||| b = 0) : a = 0 := by
  apply Nat.eq_of_testBit_eq
  intro i
  have := congrArg (fun k => k.testBit i) h
  simp at this
  simp [this.1]

set_option maxRecDepth 100000 in
set_option maxHeartbeats 8000000 in
theorem refdist_in (c : Cod) (w : World) (hc : CodAt w c) (A1 : Good c) (A2 : c.n ≤ 8) :
    Calls Try.prog 17 #[(Value.agg #[.int .i64 c.n, .slice c.ga c.gs.length c.gc, .slice c.xa c.xs.length c.xc, .slice c.za c.zs.length c.zc])] w fun e w' => e = .returned (.tuple #[.int .i64 (distV c), .int .i64 0]) ∧ Below w.heap.size w w' := by
  have HBX := Lib.hid (BoxSt.start w c)
  have hcc := fun W (h : Below w.heap.size w W) => refcheck_c c W (hc.below h)
  have hn := hc.n
  have hn1 := A1.n1
  have e1 : errC c = 0 := by simp [errC, A1]
  have HDV := Lib.hid (fun d => distV_eq A1 A2 (d := d))
  have HDIST := Lib.hid (fun b (h : Best (TD c) (nn c) (nn c) 0 b) => distV_eq A1 A2 h.dist)
  have hsh : IntKind.u64.wrap (2 ^ c.n.toNat) = ((nn c : Nat) : Int) := shl1 (by omega)
  have hNl := nn_le A2
  have hbd : ∀ (a b c : Int) (w : World), (Instr.build 27 #[(0, .int .i64 a), (1, .int .u64 b), (2, .int .u64 c)]).run Try.prog w = .ok (.agg #[.int .i64 a, .int .u64 b, .int .u64 c, .int .i64 0]) w := fun a b c w => run_build w 27 _ _ (by kernel_rfl)
  have HALL : Hid (∀ x z, x < nn c → z < nn c → ∃ (y : Nat) (l : Pau), (∀ W, Below w.heap.size w W → Calls Try.prog 38 #[(Value.agg #[.int .i64 c.n, .slice c.ga c.gs.length c.gc, .slice c.xa c.xs.length c.xc, .slice c.za c.zs.length c.zc]), (Value.agg #[.int .i64 c.n, .int .u64 x, .int .u64 z, .int .i64 0])] W fun e w' => e = .returned (.int .u64 (y : Nat)) ∧ Below W.heap.size W w') ∧ (∀ W, Below w.heap.size w W → Calls Try.prog 40 #[(Value.agg #[.int .i64 c.n, .slice c.ga c.gs.length c.gc, .slice c.xa c.xs.length c.xc, .slice c.za c.zs.length c.zc]), (Value.agg #[.int .i64 c.n, .int .u64 x, .int .u64 z, .int .i64 0])] W fun e w' => e = .returned (Value.agg #[.int .i64 l.n, .int .u64 l.x, .int .u64 l.z, .int .i64 l.ph]) ∧ Below W.heap.size W w') ∧
      (∀ W, Calls Try.prog 44 #[(Value.agg #[.int .i64 c.n, .int .u64 x, .int .u64 z, .int .i64 0])] W fun e w' => e = .returned (.int .i64 (wt x z : Nat)) ∧ Below W.heap.size W w') ∧
      TD c x z = ((l.x ||| l.z) != 0 && y == 0) ∧ (TD c x z = true → 0 < wt x z)) := Lib.hid fun x z hx hz => by
    have hw := pau_wf hn A2 hx hz
    exact ⟨synd c.gs ⟨c.n, x, z, 0⟩, logic c.xs c.zs ⟨c.n, x, z, 0⟩, fun W h => refbroken_calls c ⟨c.n, x, z, 0⟩ W (hc.below h) hw A1.gl, fun W h => logical_calls c ⟨c.n, x, z, 0⟩ W (hc.below h) hw A1.xl A1.lz, fun W => refweight_calls ⟨c.n, x, z, 0⟩ hw W, rfl, fun h => wt_pos hw.x hw.z h⟩
  rw [e1] at hcc
  clear hc A1 e1 HDV
  generalize distV c = dv at HDIST ⊢
  generalize TD c = T at HDIST HALL
  generalize nn c = N at HDIST HALL hsh hNl
  obtain ⟨n, ga, gc, gs, xa, xc, xs, za, zc, zs⟩ := c
  simp only at HBX hcc hn A2 hn1 hsh HALL
  go_enter Try.func17, Try.ntmps17
  go_wp2_with (go_at_call 11; refine (hcc _ HBX.out.below).mono ?_; rintro e w' ⟨rfl, hb⟩; replace HBX := Lib.hid (HBX.out.step hb); clear hb; obtain ⟨-, hltw, k0, k1, k2, k3⟩ := HBX.out)
  go_loopw [5, 6] (fun s5 s6 W => ∃ x b : Nat, x ≤ N ∧ s6 = .int .u64 x ∧ s5 = .int .i64 b ∧ Best T N x 0 b ∧ BoxSt w ⟨n, ga, gc, gs, xa, xc, xs, za, zc, zs⟩ W) (fun _ s _ => N - (intOf s).toNat)
  case atStart => exact ⟨0, 0, by omega, rfl, rfl, Best.start T N, HBX.out⟩
  case round =>
    clear HBX k0 k1 k2 k3 hltw
    obtain ⟨x, b, hx, rfl, rfl, hbest, hbx⟩ := hrel
    have HBEST := Lib.hid hbest
    have HBX := Lib.hid hbx
    clear hbest hbx
    obtain ⟨-, hltw, k0, k1, k2, k3⟩ := HBX.out
    by_cases hltx : x < N
    · obtain ⟨wo, rfl⟩ : ∃ wo : World, wo = wr := ⟨_, rfl⟩
      go_wp2
      go_loopw [5, 7] (fun s5 s7 W => ∃ z b : Nat, z ≤ N ∧ s7 = .int .u64 z ∧ s5 = .int .i64 b ∧ Best T N x z b ∧ BoxSt w ⟨n, ga, gc, gs, xa, xc, xs, za, zc, zs⟩ W) (fun _ s _ => N - (intOf s).toNat)
      case atStart => exact ⟨0, b, by omega, rfl, rfl, HBEST.out, HBX.out⟩
      case round =>
        clear HBX k0 k1 k2 k3 hltw HBEST
        obtain ⟨z, b, hz, rfl, rfl, hbest, hbx⟩ := hrel
        have HBEST := Lib.hid hbest
        have HBX := Lib.hid hbx
        clear hbest hbx
        obtain ⟨-, hltw, k0, k1, k2, k3⟩ := HBX.out
        by_cases hltz : z < N
        · obtain ⟨y, l, hbb, hll, hww, hT, hpos⟩ := HALL.out x z hltx hltz
          have HT := Lib.hid hT
          have HPOS := Lib.hid hpos
          have HB := Lib.hid (BP.start HBX.out ⟨n, x, z, 0⟩)
          clear hT hpos
          have hw64 := wt_le64 x z
          obtain ⟨wxz, hwx⟩ : ∃ q, q = wt x z := ⟨_, rfl⟩
          have HWX := Lib.hid hwx.symm
          rw [← hwx] at hww hw64
          clear hwx HBX
          have p0 := True.intro
          have p1 := True.intro
          have p2 := True.intro
          have p3 := True.intro
          have hltp := True.intro
          by_cases hb0 : b = 0
          · subst hb0
            by_cases hy : y = 0
            · have hyI : (((y : Nat) : Int) != 0) = false := by simp [hy]
              by_cases hlx : l.x = 0
              · have hlxI : (((l.x : Nat) : Int) != 0) = false := by simp [hlx]
                by_cases hlz : l.z = 0
                · have hlzI : (((l.z : Nat) : Int) != 0) = false := by simp [hlz]
                  have HN : Hid (Best T N x (z + 1) 0) := Lib.hid (HBEST.out.skip (by rw [HT.out, hlx, hlz]; simp))
                  clear hy hlx hlz
                  go_wp2_with (first | (go_at_call 44; refine (hww _).mono ?_; rintro e w' ⟨rfl, hb⟩; replace HB := Lib.hid (HB.out.step hb); clear hb k0 k1 k2 k3 p0 p1 p2 p3 hltw hltp; obtain ⟨⟨-, hltw, k0, k1, k2, k3⟩, ⟨p0, p1, p2, p3⟩, hltp⟩ := HB.out; simp only at p0 p1 p2 p3) | (go_at_call 38; refine (hbb _ HB.out.box.below).mono ?_; rintro e w' ⟨rfl, hb⟩; replace HB := Lib.hid (HB.out.step hb); clear hb k0 k1 k2 k3 p0 p1 p2 p3 hltw hltp; obtain ⟨⟨-, hltw, k0, k1, k2, k3⟩, ⟨p0, p1, p2, p3⟩, hltp⟩ := HB.out; simp only at p0 p1 p2 p3) | (go_at_call 40; refine (hll _ HB.out.box.below).mono ?_; rintro e w' ⟨rfl, hb⟩; replace HB := Lib.hid (HB.out.step hb); clear hb k0 k1 k2 k3 p0 p1 p2 p3 hltw hltp; obtain ⟨⟨-, hltw, k0, k1, k2, k3⟩, ⟨p0, p1, p2, p3⟩, hltp⟩ := HB.out; simp only at p0 p1 p2 p3))
                  go_roundw
                  case rel => exact ⟨z + 1, 0, by omega, by go_num, by go_num, HN.out, (HB.out.box.step (below1 _ (Obj.cells #[.int .i64 l.n, .int .u64 l.x, .int .u64 l.z, .int .i64 l.ph] 27)))⟩
                  case measure => simp [intOf]; omega
                · have hlzI : (((l.z : Nat) : Int) != 0) = true := by simpa using hlz
                  have hTt : T x z = true := by rw [HT.out, hlx, hy]; simpa using hlz
                  have HN : Hid (Best T N x (z + 1) wxz) := Lib.hid (by have h8 := HBEST.out.take hTt (HPOS.out hTt) (.inl rfl); rw [HWX.out] at h8; exact h8)
                  clear hy hlx hlz hTt
                  go_wp2_with (first | (go_at_call 44; refine (hww _).mono ?_; rintro e w' ⟨rfl, hb⟩; replace HB := Lib.hid (HB.out.step hb); clear hb k0 k1 k2 k3 p0 p1 p2 p3 hltw hltp; obtain ⟨⟨-, hltw, k0, k1, k2, k3⟩, ⟨p0, p1, p2, p3⟩, hltp⟩ := HB.out; simp only at p0 p1 p2 p3) | (go_at_call 38; refine (hbb _ HB.out.box.below).mono ?_; rintro e w' ⟨rfl, hb⟩; replace HB := Lib.hid (HB.out.step hb); clear hb k0 k1 k2 k3 p0 p1 p2 p3 hltw hltp; obtain ⟨⟨-, hltw, k0, k1, k2, k3⟩, ⟨p0, p1, p2, p3⟩, hltp⟩ := HB.out; simp only at p0 p1 p2 p3) | (go_at_call 40; refine (hll _ HB.out.box.below).mono ?_; rintro e w' ⟨rfl, hb⟩; replace HB := Lib.hid (HB.out.step hb); clear hb k0 k1 k2 k3 p0 p1 p2 p3 hltw hltp; obtain ⟨⟨-, hltw, k0, k1, k2, k3⟩, ⟨p0, p1, p2, p3⟩, hltp⟩ := HB.out; simp only at p0 p1 p2 p3))
                  go_roundw
                  case rel => exact ⟨z + 1, wxz, by omega, by go_num, by go_num, HN.out, (HB.out.box.step (below1 _ (Obj.cells #[.int .i64 l.n, .int .u64 l.x, .int .u64 l.z, .int .i64 l.ph] 27)))⟩
                  case measure => simp [intOf]; omega
              · have hlxI : (((l.x : Nat) : Int) != 0) = true := by simpa using hlx
                have hTt : T x z = true := by
                  rw [HT.out, hy]
                  simp only [bne_iff_ne, ne_eq, beq_self_eq_true, Bool.and_true]
                  intro h0
                  exact hlx (or_none h0)
                have HN : Hid (Best T N x (z + 1) wxz) := Lib.hid (by have h8 := HBEST.out.take hTt (HPOS.out hTt) (.inl rfl); rw [HWX.out] at h8; exact h8)
                clear hy hlx hTt
                go_wp2_with (first | (go_at_call 44; refine (hww _).mono ?_; rintro e w' ⟨rfl, hb⟩; replace HB := Lib.hid (HB.out.step hb); clear hb k0 k1 k2 k3 p0 p1 p2 p3 hltw hltp; obtain ⟨⟨-, hltw, k0, k1, k2, k3⟩, ⟨p0, p1, p2, p3⟩, hltp⟩ := HB.out; simp only at p0 p1 p2 p3) | (go_at_call 38; refine (hbb _ HB.out.box.below).mono ?_; rintro e w' ⟨rfl, hb⟩; replace HB := Lib.hid (HB.out.step hb); clear hb k0 k1 k2 k3 p0 p1 p2 p3 hltw hltp; obtain ⟨⟨-, hltw, k0, k1, k2, k3⟩, ⟨p0, p1, p2, p3⟩, hltp⟩ := HB.out; simp only at p0 p1 p2 p3) | (go_at_call 40; refine (hll _ HB.out.box.below).mono ?_; rintro e w' ⟨rfl, hb⟩; replace HB := Lib.hid (HB.out.step hb); clear hb k0 k1 k2 k3 p0 p1 p2 p3 hltw hltp; obtain ⟨⟨-, hltw, k0, k1, k2, k3⟩, ⟨p0, p1, p2, p3⟩, hltp⟩ := HB.out; simp only at p0 p1 p2 p3))
                go_roundw
                case rel => exact ⟨z + 1, wxz, by omega, by go_num, by go_num, HN.out, (HB.out.box.step (below1 _ (Obj.cells #[.int .i64 l.n, .int .u64 l.x, .int .u64 l.z, .int .i64 l.ph] 27)))⟩
                case measure => simp [intOf]; omega
            · have hyI : (((y : Nat) : Int) != 0) = true := by simpa using hy
              have HN : Hid (Best T N x (z + 1) 0) := Lib.hid (HBEST.out.skip (by rw [HT.out]; simp [hy]))
              clear hy hll
              go_wp2_with (first | (go_at_call 44; refine (hww _).mono ?_; rintro e w' ⟨rfl, hb⟩; replace HB := Lib.hid (HB.out.step hb); clear hb k0 k1 k2 k3 p0 p1 p2 p3 hltw hltp; obtain ⟨⟨-, hltw, k0, k1, k2, k3⟩, ⟨p0, p1, p2, p3⟩, hltp⟩ := HB.out; simp only at p0 p1 p2 p3) | (go_at_call 38; refine (hbb _ HB.out.box.below).mono ?_; rintro e w' ⟨rfl, hb⟩; replace HB := Lib.hid (HB.out.step hb); clear hb k0 k1 k2 k3 p0 p1 p2 p3 hltw hltp; obtain ⟨⟨-, hltw, k0, k1, k2, k3⟩, ⟨p0, p1, p2, p3⟩, hltp⟩ := HB.out; simp only at p0 p1 p2 p3) | (go_at_call 40; refine (hll _ HB.out.box.below).mono ?_; rintro e w' ⟨rfl, hb⟩; replace HB := Lib.hid (HB.out.step hb); clear hb k0 k1 k2 k3 p0 p1 p2 p3 hltw hltp; obtain ⟨⟨-, hltw, k0, k1, k2, k3⟩, ⟨p0, p1, p2, p3⟩, hltp⟩ := HB.out; simp only at p0 p1 p2 p3))
              go_roundw
              case rel => exact ⟨z + 1, 0, by omega, by go_num, by go_num, HN.out, HB.out.box⟩
              case measure => simp [intOf]; omega
          · have hbI : (0 : Int) < (b : Int) := by omega
            by_cases hbw : b ≤ wxz
            · have HN : Hid (Best T N x (z + 1) b) := Lib.hid (HBEST.out.keep (by omega) (by rw [HWX.out]; exact hbw))
              have hbwI : (b : Int) ≤ (wxz : Int) := by omega
              clear hbb hll hb0 hbw
              go_wp2_with (first | (go_at_call 44; refine (hww _).mono ?_; rintro e w' ⟨rfl, hb⟩; replace HB := Lib.hid (HB.out.step hb); clear hb k0 k1 k2 k3 p0 p1 p2 p3 hltw hltp; obtain ⟨⟨-, hltw, k0, k1, k2, k3⟩, ⟨p0, p1, p2, p3⟩, hltp⟩ := HB.out; simp only at p0 p1 p2 p3) | (go_at_call 38; refine (hbb _ HB.out.box.below).mono ?_; rintro e w' ⟨rfl, hb⟩; replace HB := Lib.hid (HB.out.step hb); clear hb k0 k1 k2 k3 p0 p1 p2 p3 hltw hltp; obtain ⟨⟨-, hltw, k0, k1, k2, k3⟩, ⟨p0, p1, p2, p3⟩, hltp⟩ := HB.out; simp only at p0 p1 p2 p3) | (go_at_call 40; refine (hll _ HB.out.box.below).mono ?_; rintro e w' ⟨rfl, hb⟩; replace HB := Lib.hid (HB.out.step hb); clear hb k0 k1 k2 k3 p0 p1 p2 p3 hltw hltp; obtain ⟨⟨-, hltw, k0, k1, k2, k3⟩, ⟨p0, p1, p2, p3⟩, hltp⟩ := HB.out; simp only at p0 p1 p2 p3))
              go_roundw
              case rel => exact ⟨z + 1, b, by omega, by go_num, by go_num, HN.out, HB.out.box⟩
              case measure => simp [intOf]; omega
            · have hbwI : (wxz : Int) < (b : Int) := by omega
              have hlt : wt x z < b := by rw [HWX.out]; omega
              have HLT := Lib.hid hlt
              clear hb0 hbw hlt
              by_cases hy : y = 0
              · have hyI : (((y : Nat) : Int) != 0) = false := by simp [hy]
                by_cases hlx : l.x = 0
                · have hlxI : (((l.x : Nat) : Int) != 0) = false := by simp [hlx]
                  by_cases hlz : l.z = 0
                  · have hlzI : (((l.z : Nat) : Int) != 0) = false := by simp [hlz]
                    have HN : Hid (Best T N x (z + 1) b) := Lib.hid (HBEST.out.skip (by rw [HT.out, hlx, hlz]; simp))
                    clear hy hlx hlz
                    go_wp2_with (first | (go_at_call 44; refine (hww _).mono ?_; rintro e w' ⟨rfl, hb⟩; replace HB := Lib.hid (HB.out.step hb); clear hb k0 k1 k2 k3 p0 p1 p2 p3 hltw hltp; obtain ⟨⟨-, hltw, k0, k1, k2, k3⟩, ⟨p0, p1, p2, p3⟩, hltp⟩ := HB.out; simp only at p0 p1 p2 p3) | (go_at_call 38; refine (hbb _ HB.out.box.below).mono ?_; rintro e w' ⟨rfl, hb⟩; replace HB := Lib.hid (HB.out.step hb); clear hb k0 k1 k2 k3 p0 p1 p2 p3 hltw hltp; obtain ⟨⟨-, hltw, k0, k1, k2, k3⟩, ⟨p0, p1, p2, p3⟩, hltp⟩ := HB.out; simp only at p0 p1 p2 p3) | (go_at_call 40; refine (hll _ HB.out.box.below).mono ?_; rintro e w' ⟨rfl, hb⟩; replace HB := Lib.hid (HB.out.step hb); clear hb k0 k1 k2 k3 p0 p1 p2 p3 hltw hltp; obtain ⟨⟨-, hltw, k0, k1, k2, k3⟩, ⟨p0, p1, p2, p3⟩, hltp⟩ := HB.out; simp only at p0 p1 p2 p3))
                    go_roundw
                    case rel => exact ⟨z + 1, b, by omega, by go_num, by go_num, HN.out, (HB.out.box.step (below1 _ (Obj.cells #[.int .i64 l.n, .int .u64 l.x, .int .u64 l.z, .int .i64 l.ph] 27)))⟩
                    case measure => simp [intOf]; omega
                  · have hlzI : (((l.z : Nat) : Int) != 0) = true := by simpa using hlz
                    have hTt : T x z = true := by rw [HT.out, hlx, hy]; simpa using hlz
                    have HN : Hid (Best T N x (z + 1) wxz) := Lib.hid (by have h8 := HBEST.out.take hTt (HPOS.out hTt) (.inr HLT.out); rw [HWX.out] at h8; exact h8)
                    clear hy hlx hlz hTt
                    go_wp2_with (first | (go_at_call 44; refine (hww _).mono ?_; rintro e w' ⟨rfl, hb⟩; replace HB := Lib.hid (HB.out.step hb); clear hb k0 k1 k2 k3 p0 p1 p2 p3 hltw hltp; obtain ⟨⟨-, hltw, k0, k1, k2, k3⟩, ⟨p0, p1, p2, p3⟩, hltp⟩ := HB.out; simp only at p0 p1 p2 p3) | (go_at_call 38; refine (hbb _ HB.out.box.below).mono ?_; rintro e w' ⟨rfl, hb⟩; replace HB := Lib.hid (HB.out.step hb); clear hb k0 k1 k2 k3 p0 p1 p2 p3 hltw hltp; obtain ⟨⟨-, hltw, k0, k1, k2, k3⟩, ⟨p0, p1, p2, p3⟩, hltp⟩ := HB.out; simp only at p0 p1 p2 p3) | (go_at_call 40; refine (hll _ HB.out.box.below).mono ?_; rintro e w' ⟨rfl, hb⟩; replace HB := Lib.hid (HB.out.step hb); clear hb k0 k1 k2 k3 p0 p1 p2 p3 hltw hltp; obtain ⟨⟨-, hltw, k0, k1, k2, k3⟩, ⟨p0, p1, p2, p3⟩, hltp⟩ := HB.out; simp only at p0 p1 p2 p3))
                    go_roundw
                    case rel => exact ⟨z + 1, wxz, by omega, by go_num, by go_num, HN.out, (HB.out.box.step (below1 _ (Obj.cells #[.int .i64 l.n, .int .u64 l.x, .int .u64 l.z, .int .i64 l.ph] 27)))⟩
                    case measure => simp [intOf]; omega
                · have hlxI : (((l.x : Nat) : Int) != 0) = true := by simpa using hlx
                  have hTt : T x z = true := by
                    rw [HT.out, hy]
                    simp only [bne_iff_ne, ne_eq, beq_self_eq_true, Bool.and_true]
                    intro h0
                    exact hlx (or_none h0)
                  have HN : Hid (Best T N x (z + 1) wxz) := Lib.hid (by have h8 := HBEST.out.take hTt (HPOS.out hTt) (.inr HLT.out); rw [HWX.out] at h8; exact h8)
                  clear hy hlx hTt
                  go_wp2_with (first | (go_at_call 44; refine (hww _).mono ?_; rintro e w' ⟨rfl, hb⟩; replace HB := Lib.hid (HB.out.step hb); clear hb k0 k1 k2 k3 p0 p1 p2 p3 hltw hltp; obtain ⟨⟨-, hltw, k0, k1, k2, k3⟩, ⟨p0, p1, p2, p3⟩, hltp⟩ := HB.out; simp only at p0 p1 p2 p3) | (go_at_call 38; refine (hbb _ HB.out.box.below).mono ?_; rintro e w' ⟨rfl, hb⟩; replace HB := Lib.hid (HB.out.step hb); clear hb k0 k1 k2 k3 p0 p1 p2 p3 hltw hltp; obtain ⟨⟨-, hltw, k0, k1, k2, k3⟩, ⟨p0, p1, p2, p3⟩, hltp⟩ := HB.out; simp only at p0 p1 p2 p3) | (go_at_call 40; refine (hll _ HB.out.box.below).mono ?_; rintro e w' ⟨rfl, hb⟩; replace HB := Lib.hid (HB.out.step hb); clear hb k0 k1 k2 k3 p0 p1 p2 p3 hltw hltp; obtain ⟨⟨-, hltw, k0, k1, k2, k3⟩, ⟨p0, p1, p2, p3⟩, hltp⟩ := HB.out; simp only at p0 p1 p2 p3))
                  go_roundw
                  case rel => exact ⟨z + 1, wxz, by omega, by go_num, by go_num, HN.out, (HB.out.box.step (below1 _ (Obj.cells #[.int .i64 l.n, .int .u64 l.x, .int .u64 l.z, .int .i64 l.ph] 27)))⟩
                  case measure => simp [intOf]; omega
              · have hyI : (((y : Nat) : Int) != 0) = true := by simpa using hy
                have HN : Hid (Best T N x (z + 1) b) := Lib.hid (HBEST.out.skip (by rw [HT.out]; simp [hy]))
                clear hy hll
                go_wp2_with (first | (go_at_call 44; refine (hww _).mono ?_; rintro e w' ⟨rfl, hb⟩; replace HB := Lib.hid (HB.out.step hb); clear hb k0 k1 k2 k3 p0 p1 p2 p3 hltw hltp; obtain ⟨⟨-, hltw, k0, k1, k2, k3⟩, ⟨p0, p1, p2, p3⟩, hltp⟩ := HB.out; simp only at p0 p1 p2 p3) | (go_at_call 38; refine (hbb _ HB.out.box.below).mono ?_; rintro e w' ⟨rfl, hb⟩; replace HB := Lib.hid (HB.out.step hb); clear hb k0 k1 k2 k3 p0 p1 p2 p3 hltw hltp; obtain ⟨⟨-, hltw, k0, k1, k2, k3⟩, ⟨p0, p1, p2, p3⟩, hltp⟩ := HB.out; simp only at p0 p1 p2 p3) | (go_at_call 40; refine (hll _ HB.out.box.below).mono ?_; rintro e w' ⟨rfl, hb⟩; replace HB := Lib.hid (HB.out.step hb); clear hb k0 k1 k2 k3 p0 p1 p2 p3 hltw hltp; obtain ⟨⟨-, hltw, k0, k1, k2, k3⟩, ⟨p0, p1, p2, p3⟩, hltp⟩ := HB.out; simp only at p0 p1 p2 p3))
                go_roundw
                case rel => exact ⟨z + 1, b, by omega, by go_num, by go_num, HN.out, HB.out.box⟩
                case measure => simp [intOf]; omega
        · obtain rfl : z = N := by omega
          have HN := Lib.hid HBEST.out.row
          go_wp2
          go_roundw
          case rel => exact ⟨x + 1, b, by omega, by go_num, rfl, HN.out, HBX.out⟩
          case measure => simp [intOf]; omega
    · obtain rfl : x = N := by omega
      have HD : Hid (dv = b) := Lib.hid (HDIST.out b HBEST.out)
      go_wp2
      refine bodyPost_ret (v := .tuple #[.int .i64 b, .int .i64 0]) (by simp [results, Try.results17, go_sem]) rfl ⟨by rw [HD.out], HBX.out.below⟩

set_option maxRecDepth 100000 in
set_option maxHeartbeats 4000000 in
theorem refdistance_calls (c : Cod) (w : World) (hc : CodAt w c) :
    Calls Try.prog 17 #[(Value.agg #[.int .i64 c.n, .slice c.ga c.gs.length c.gc, .slice c.xa c.xs.length c.xc, .slice c.za c.zs.length c.zc])] w fun e w' => e = .returned (.tuple #[.int .i64 (distV c), .int .i64 (distE c)]) ∧ Below w.heap.size w w' := by
  by_cases A1 : Good c
  · by_cases A2 : c.n ≤ 8
    · have e2 : distE c = 0 := by simp [distE, A1, A2]
      rw [e2]
      exact refdist_in c w hc A1 A2
    · have HBX := Lib.hid (BoxSt.start w c)
      have hcc := fun W (h : Below w.heap.size w W) => refcheck_c c W (hc.below h)
      have hn := hc.n
      have e1 : errC c = 0 := by simp [errC, A1]
      have e2 : distE c = 1 := by simp [distE, A1, A2]
      have e3 : distV c = 0 := by simp [distV, A2]
      rw [e2, e3]
      rw [e1] at hcc
      clear e1 e2 e3 hc A1
      obtain ⟨n, ga, gc, gs, xa, xc, xs, za, zc, zs⟩ := c
      simp only at HBX hcc hn A2
      go_enter Try.func17, Try.ntmps17
      go_wp2_with (go_at_call 11; refine (hcc _ HBX.out.below).mono ?_; rintro e w' ⟨rfl, hb⟩; replace HBX := Lib.hid (HBX.out.step hb); clear hb; obtain ⟨-, hltw, k0, k1, k2, k3⟩ := HBX.out)
      refine bodyPost_ret (v := .tuple #[.int .i64 0, .int .i64 1]) (by simp [results, Try.results17, go_sem]) rfl ⟨rfl, HBX.out.below⟩
  · have HBX := Lib.hid (BoxSt.start w c)
    have hcc := fun W (h : Below w.heap.size w W) => refcheck_c c W (hc.below h)
    have hn := hc.n
    have e1 : errC c = 230 := by simp [errC, A1]
    have e2 : distE c = 230 := by simp [distE, A1]
    have e3 : distV c = 0 := by simp [distV, A1]
    rw [e1] at hcc
    rw [e2, e3]
    clear e1 e2 e3 hc A1
    obtain ⟨n, ga, gc, gs, xa, xc, xs, za, zc, zs⟩ := c
    simp only at HBX hcc hn
    go_enter Try.func17, Try.ntmps17
    go_wp2_with (go_at_call 11; refine (hcc _ HBX.out.below).mono ?_; rintro e w' ⟨rfl, hb⟩; replace HBX := Lib.hid (HBX.out.step hb); clear hb; obtain ⟨-, hltw, k0, k1, k2, k3⟩ := HBX.out)
    refine bodyPost_ret (v := .tuple #[.int .i64 0, .int .i64 230]) (by simp [results, Try.results17, go_sem]) rfl ⟨rfl, HBX.out.below⟩
end Go.Proofs.Ytfnmembjgclhoaa.CD
