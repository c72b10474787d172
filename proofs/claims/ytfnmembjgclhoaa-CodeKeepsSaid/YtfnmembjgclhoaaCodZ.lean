/- The document's Decode: walked. -/
import Derived.Test.YtfnmembjgclhoaaCodY
namespace Go.Proofs.Ytfnmembjgclhoaa.CD
open Go Go.RowKit
set_option linter.unusedVariables false
set_option linter.unusedSimpArgs false
open B (pcs ofB)

def lexle (x z x' z' : Nat) : Prop := wt x z < wt x' z' ∨ wt x z = wt x' z' ∧ (x < x' ∨ x = x' ∧ z ≤ z')
def Least (T : Nat → Nat → Bool) (N : Nat) (n : Int) (x z : Nat) (l : Int) (q : Pau) : Prop :=
  (l = -1 ∧ q = ⟨0, 0, 0, 0⟩ ∧ ∀ x' z', bef N x z x' z' → T x' z' = false) ∨
  ∃ x0 z0, bef N x z x0 z0 ∧ T x0 z0 = true ∧ l = (wt x0 z0 : Nat) ∧ q = ⟨n, x0, z0, 0⟩ ∧ ∀ x' z', bef N x z x' z' → T x' z' = true → lexle x0 z0 x' z'
theorem Least.start (T : Nat → Nat → Bool) (N : Nat) (n : Int) : Least T N n 0 0 (-1) ⟨0, 0, 0, 0⟩ := .inl ⟨rfl, rfl, fun x' z' h => by unfold bef at h; omega⟩
theorem Least.row {T : Nat → Nat → Bool} {N x : Nat} {n l : Int} {q : Pau} (h : Least T N n x N l q) : Least T N n (x + 1) 0 l q := by
  unfold Least at h ⊢
  simp only [bef_row]
  exact h
theorem Least.skip {T : Nat → Nat → Bool} {N x z : Nat} {n l : Int} {q : Pau} (h : Least T N n x z l q) (hT : T x z = false) : Least T N n x (z + 1) l q := by
  unfold Least at h ⊢
  simp only [bef_succ]
  rcases h with ⟨h0, h1, h2⟩ | ⟨x0, z0, h1, h2, h3, h4, h5⟩
  · refine .inl ⟨h0, h1, fun x' z' h => ?_⟩
    rcases h with h | ⟨rfl, rfl⟩
    · exact h2 x' z' h
    · exact hT
  · refine .inr ⟨x0, z0, .inl h1, h2, h3, h4, fun x' z' h hh => ?_⟩
    rcases h with h | ⟨rfl, rfl⟩
    · exact h5 x' z' h hh
    · rw [hT] at hh; cases hh
theorem Least.keep {T : Nat → Nat → Bool} {N x z : Nat} {n l : Int} {q : Pau} (h : Least T N n x z l q) (hl : 0 ≤ l) (hw : l ≤ (wt x z : Nat)) : Least T N n x (z + 1) l q := by
  unfold Least at h ⊢
  simp only [bef_succ]
  rcases h with ⟨h0, h1, h2⟩ | ⟨x0, z0, h1, h2, h3, h4, h5⟩
  · omega
  · refine .inr ⟨x0, z0, .inl h1, h2, h3, h4, fun x' z' h hh => ?_⟩
    rcases h with h | ⟨rfl, rfl⟩
    · exact h5 x' z' h hh
    · unfold bef at h1
      unfold lexle
      omega
theorem Least.take {T : Nat → Nat → Bool} {N x z : Nat} {n l : Int} {q : Pau} (h : Least T N n x z l q) (hT : T x z = true) (hl : l = -1 ∨ (wt x z : Nat) < l) : Least T N n x (z + 1) (wt x z : Nat) ⟨n, x, z, 0⟩ := by
  unfold Least at h ⊢
  simp only [bef_succ]
  refine .inr ⟨x, z, .inr ⟨rfl, rfl⟩, hT, rfl, rfl, fun x' z' h' hh => ?_⟩
  rcases h' with h' | ⟨rfl, rfl⟩
  · rcases h with ⟨h0, h1, h2⟩ | ⟨x0, z0, h1, h2, h3, h4, h5⟩
    · rw [h2 x' z' h'] at hh; cases hh
    · have := h5 x' z' h' hh
      unfold lexle at this ⊢
      omega
  · unfold lexle; omega
theorem Least.dec {c : Cod} {s : Nat} {l : Int} {q : Pau} (h : Least (TS c s) (nn c) c.n (nn c) 0 l q) : IsDec c s q := by
  have hb : ∀ x z, x < nn c → z < nn c → bef (nn c) (nn c) 0 x z := fun x z hx hz => .inl ⟨hx, hz⟩
  have hb' : ∀ x z, bef (nn c) (nn c) 0 x z → x < nn c ∧ z < nn c := fun x z h => by unfold bef at h; omega
  rcases h with ⟨h0, h1, h2⟩ | ⟨x0, z0, h1, h2, h3, h4, h5⟩
  · exact .inr ⟨fun x hx z hz => h2 x z (hb x z hx hz), h1⟩
  · obtain ⟨hx0, hz0⟩ := hb' x0 z0 h1
    exact .inl ⟨x0, z0, ⟨hx0, hz0, h2, fun x' hx' z' hz' hT => h5 x' z' (hb x' z' hx' hz') hT⟩, h4⟩
theorem Least.low {T : Nat → Nat → Bool} {N x z : Nat} {n l : Int} {q : Pau} (h : Least T N n x z l q) : l = -1 ∨ 0 ≤ l ∧ l ≤ 64 := by
  rcases h with ⟨h0, _⟩ | ⟨x0, z0, h1, h2, h3, h4, h5⟩
  · exact .inl h0
  · have := wt_le64 x0 z0; right; omega

/-- A code's box, the answer's cell, the best so far. -/
structure Ds (w : World) (c : Cod) (Q : Nat) (q : Pau) (W : World) : Prop where
  box : BoxSt w c W
  o : Cells4 W (w.heap.size + 1) 0 ⟨0, 0, 0, 0⟩
  fo : ∀ i, W.frozen? ⟨w.heap.size + 1, i, none⟩ = false
  q : Cells4 W Q 0 q
  fq : ∀ i, W.frozen? ⟨Q, i, none⟩ = false
  lo : w.heap.size + 1 < Q
  lq : Q < W.heap.size
theorem Ds.step {w W W' : World} {c : Cod} {Q : Nat} {q : Pau} (h : Ds w c Q q W) (hb : Below W.heap.size W W') : Ds w c Q q W' := by
  have hlo : w.heap.size + 1 < W.heap.size := Nat.lt_trans h.lo h.lq
  exact ⟨h.box.step hb, h.o.below hlo hb, fun i => (hb.frozen (p := ⟨w.heap.size + 1, i, none⟩) hlo).trans (h.fo i), h.q.below h.lq hb, fun i => (hb.frozen (p := ⟨Q, i, none⟩) h.lq).trans (h.fq i), h.lo, Nat.lt_of_lt_of_le h.lq hb.size⟩
theorem Cells4.same {w : World} {b : Nat} {q : Pau} (h : Cells4 w b 0 q) (p : Pau) : Cells4 ((((w.setCell ⟨b, 0, none⟩ (.int .i64 p.n)).setCell ⟨b, 1, none⟩ (.int .u64 p.x)).setCell ⟨b, 2, none⟩ (.int .u64 p.z)).setCell ⟨b, 3, none⟩ (.int .i64 p.ph)) b 0 p := by
  obtain ⟨c0, c1, c2, c3⟩ := h
  simp only [Nat.zero_add] at c1 c2 c3
  refine ⟨?_, ?_, ?_, ?_⟩
  · rw [cell_ne (by simp), cell_ne (by simp), cell_ne (by simp), World.cell?_setCell_same' _ _ _ (by rw [c0]; rfl)]
  · rw [cell_ne (by simp), cell_ne (by simp), World.cell?_setCell_same' _ _ _ (by rw [cell_ne (by simp), c1]; rfl)]
  · rw [cell_ne (by simp), World.cell?_setCell_same' _ _ _ (by rw [cell_ne (by simp), cell_ne (by simp), c2]; rfl)]
  · rw [World.cell?_setCell_same' _ _ _ (by rw [cell_ne (by simp), cell_ne (by simp), cell_ne (by simp), c3]; rfl)]
theorem Ds.put {w W : World} {c : Cod} {Q : Nat} {q : Pau} (h : Ds w c Q q W) (p : Pau) : Ds w c Q p ((((W.setCell ⟨Q, 0, none⟩ (.int .i64 p.n)).setCell ⟨Q, 1, none⟩ (.int .u64 p.x)).setCell ⟨Q, 2, none⟩ (.int .u64 p.z)).setCell ⟨Q, 3, none⟩ (.int .i64 p.ph)) := by
  have hlo := h.lo
  have ne : ∀ (b i j : Nat), b < Q → (⟨Q, i, none⟩ : Addr) ≠ ⟨b, j, none⟩ := fun b i j hb e => by cases e; omega
  obtain ⟨o0, o1, o2, o3⟩ := h.o
  refine ⟨⟨put4 h.box.below (by omega) _ _ _ _, by simpa using h.box.lt, ?_, ?_, ?_, ?_⟩, ⟨?_, ?_, ?_, ?_⟩, fun i => by simp only [World.frozen?_setCell]; exact h.fo i, Cells4.same h.q p, fun i => by simp only [World.frozen?_setCell]; exact h.fq i, h.lo, by simpa using h.lq⟩
  · rw [cell_ne (ne _ _ _ (by omega)), cell_ne (ne _ _ _ (by omega)), cell_ne (ne _ _ _ (by omega)), cell_ne (ne _ _ _ (by omega))]; exact h.box.c0
  · rw [cell_ne (ne _ _ _ (by omega)), cell_ne (ne _ _ _ (by omega)), cell_ne (ne _ _ _ (by omega)), cell_ne (ne _ _ _ (by omega))]; exact h.box.c1
  · rw [cell_ne (ne _ _ _ (by omega)), cell_ne (ne _ _ _ (by omega)), cell_ne (ne _ _ _ (by omega)), cell_ne (ne _ _ _ (by omega))]; exact h.box.c2
  · rw [cell_ne (ne _ _ _ (by omega)), cell_ne (ne _ _ _ (by omega)), cell_ne (ne _ _ _ (by omega)), cell_ne (ne _ _ _ (by omega))]; exact h.box.c3
  · rw [cell_ne (ne _ _ _ hlo), cell_ne (ne _ _ _ hlo), cell_ne (ne _ _ _ hlo), cell_ne (ne _ _ _ hlo)]; exact o0
  · rw [cell_ne (ne _ _ _ hlo), cell_ne (ne _ _ _ hlo), cell_ne (ne _ _ _ hlo), cell_ne (ne _ _ _ hlo)]; exact o1
  · rw [cell_ne (ne _ _ _ hlo), cell_ne (ne _ _ _ hlo), cell_ne (ne _ _ _ hlo), cell_ne (ne _ _ _ hlo)]; exact o2
  · rw [cell_ne (ne _ _ _ hlo), cell_ne (ne _ _ _ hlo), cell_ne (ne _ _ _ hlo), cell_ne (ne _ _ _ hlo)]; exact o3
/-- .. and the string at hand. -/
structure DP (w : World) (c : Cod) (Q : Nat) (q : Pau) (P : Nat) (p : Pau) (W : World) : Prop where
  d : Ds w c Q q W
  p : Cells4 W P 0 p
  lt : P < W.heap.size
theorem DP.step {w W W' : World} {c : Cod} {Q P : Nat} {q p : Pau} (h : DP w c Q q P p W) (hb : Below W.heap.size W W') : DP w c Q q P p W' :=
  ⟨h.d.step hb, h.p.below h.lt hb, Nat.lt_of_lt_of_le h.lt hb.size⟩
theorem DP.start {w W : World} {c : Cod} {Q : Nat} {q : Pau} (h : Ds w c Q q W) (p : Pau) : DP w c Q q W.heap.size p (W.alloc (Obj.cells #[.int .i64 p.n, .int .u64 p.x, .int .u64 p.z, .int .i64 p.ph] 27)) :=
  ⟨h.step (below1 _ _), Cells4.of (newAt _ _ rfl), by simp⟩
/-- A code's box and the answer's cell. -/
structure D0 (w : World) (c : Cod) (W : World) : Prop where
  box : BoxSt w c W
  o : Cells4 W (w.heap.size + 1) 0 ⟨0, 0, 0, 0⟩
  fo : ∀ i, W.frozen? ⟨w.heap.size + 1, i, none⟩ = false
  lo : w.heap.size + 1 < W.heap.size
theorem D0.start (w : World) (c : Cod) : D0 w c ((w.alloc (.cells #[.int .i64 c.n, (Value.slice c.ga c.gs.length c.gc), (Value.slice c.xa c.xs.length c.xc), (Value.slice c.za c.zs.length c.zc)] 24)).alloc (.cells #[.int .i64 0, .int .u64 0, .int .u64 0, .int .i64 0] 27)) :=
  ⟨(BoxSt.start w c).step (below1 _ _), Cells4.of (p := ⟨0, 0, 0, 0⟩) (newAt _ _ (by simp)), fun i => free_of (newAt _ _ (by simp)), by simp⟩
theorem D0.step {w W W' : World} {c : Cod} (h : D0 w c W) (hb : Below W.heap.size W W') : D0 w c W' :=
  ⟨h.box.step hb, h.o.below h.lo hb, fun i => (hb.frozen (p := ⟨w.heap.size + 1, i, none⟩) h.lo).trans (h.fo i), Nat.lt_of_lt_of_le h.lo hb.size⟩
theorem D0.best {w W : World} {c : Cod} (h : D0 w c W) : Ds w c W.heap.size ⟨0, 0, 0, 0⟩ (W.alloc (.cells #[.int .i64 0, .int .u64 0, .int .u64 0, .int .i64 0] 27)) := by
  have h' := h.step (below1 W (.cells #[.int .i64 0, .int .u64 0, .int .u64 0, .int .i64 0] 27))
  exact ⟨h'.box, h'.o, h'.fo, Cells4.of (p := ⟨0, 0, 0, 0⟩) (newAt _ _ rfl), fun i => free_of (newAt _ _ rfl), h.lo, by simp⟩

set_option maxRecDepth 100000 in
set_option maxHeartbeats 8000000 in
theorem refdec_in (c : Cod) (s : Nat) (w : World) (hc : CodAt w c) (hs : U s) (A1 : Good c) (A2 : c.n ≤ 8) (A3 : s < 2 ^ c.gs.length) :
    Calls Try.prog 19 #[(Value.agg #[.int .i64 c.n, .slice c.ga c.gs.length c.gc, .slice c.xa c.xs.length c.xc, .slice c.za c.zs.length c.zc]), .int .u64 s] w fun e w' => e = .returned (.tuple #[(Value.agg #[.int .i64 (decV c s).n, .int .u64 (decV c s).x, .int .u64 (decV c s).z, .int .i64 (decV c s).ph]), .int .i64 0]) ∧ Below w.heap.size w w' := by
  have HBX := Lib.hid (D0.start w c)
  have hcc := fun W (h : Below w.heap.size w W) => refcheck_c c W (hc.below h)
  have hn := hc.n
  have hn1 := A1.n1
  have e1 : errC c = 0 := by simp [errC, A1]
  have e2 : decE c s = 0 := by simp [decE, A1, A2, A3]
  have HDEC := Lib.hid (fun l q (h : Least (TS c s) (nn c) c.n (nn c) 0 l q) => decV_eq e2 h.dec)
  have hsh : IntKind.u64.wrap (2 ^ c.n.toNat) = ((nn c : Nat) : Int) := shl1 (by omega)
  have hNl := nn_le A2
  have hdz := div_zero A3
  have hgl : (c.gs.length : Int) ≤ 8 := by have h1 := A1.len; omega
  have hbz : ∀ (w : World), (Instr.build 27 #[]).run Try.prog w = .ok (.agg #[.int .i64 0, .int .u64 0, .int .u64 0, .int .i64 0]) w := fun w => run_build w 27 _ _ (by kernel_rfl)
  have hbd : ∀ (a b c : Int) (w : World), (Instr.build 27 #[(0, .int .i64 a), (1, .int .u64 b), (2, .int .u64 c)]).run Try.prog w = .ok (.agg #[.int .i64 a, .int .u64 b, .int .u64 c, .int .i64 0]) w := fun a b c w => run_build w 27 _ _ (by kernel_rfl)
  have HALL : Hid (∀ x z, x < nn c → z < nn c → ∃ (y : Nat), (∀ W, Below w.heap.size w W → Calls Try.prog 38 #[(Value.agg #[.int .i64 c.n, .slice c.ga c.gs.length c.gc, .slice c.xa c.xs.length c.xc, .slice c.za c.zs.length c.zc]), (Value.agg #[.int .i64 c.n, .int .u64 x, .int .u64 z, .int .i64 0])] W fun e w' => e = .returned (.int .u64 (y : Nat)) ∧ Below W.heap.size W w') ∧
      (∀ W, Calls Try.prog 44 #[(Value.agg #[.int .i64 c.n, .int .u64 x, .int .u64 z, .int .i64 0])] W fun e w' => e = .returned (.int .i64 (wt x z : Nat)) ∧ Below W.heap.size W w') ∧
      TS c s x z = (y == s)) := Lib.hid fun x z hx hz => by
    have hw := pau_wf hn A2 hx hz
    exact ⟨synd c.gs ⟨c.n, x, z, 0⟩, fun W h => refbroken_calls c ⟨c.n, x, z, 0⟩ W (hc.below h) hw A1.gl, fun W => refweight_calls ⟨c.n, x, z, 0⟩ hw W, rfl⟩
  rw [e1] at hcc
  clear hc A1 e1 e2 A3
  generalize decV c s = dv at HDEC ⊢
  generalize TS c s = T at HDEC HALL
  generalize nn c = N at HDEC HALL hsh hNl
  obtain ⟨n, ga, gc, gs, xa, xc, xs, za, zc, zs⟩ := c
  simp only at HBX hcc hn A2 hn1 hsh HALL HDEC hdz hgl
  go_enter Try.func19, Try.ntmps19
  go_wp2_with (go_at_call 11; refine (hcc _ HBX.out.box.below).mono ?_; rintro e w' ⟨rfl, hb⟩; replace HBX := Lib.hid (HBX.out.step hb); clear hb; obtain ⟨⟨-, hltw, k0, k1, k2, k3⟩, ⟨o0, o1, o2, o3⟩, hfo, hlo⟩ := HBX.out)
  have HD := Lib.hid HBX.out.best
  have HQ := Lib.hid HBX.out.lo
  clear k0 k1 k2 k3 o0 o1 o2 o3 hfo hlo hltw HBX
  obtain ⟨⟨-, hltw, k0, k1, k2, k3⟩, ⟨o0, o1, o2, o3⟩, hfo, ⟨q0, q1, q2, q3⟩, hfq, hlo, hlq⟩ := HD.out
  go_loopw [8, 9] (fun s8 s9 W => ∃ (x : Nat) (l : Int) (q : Pau), x ≤ N ∧ s9 = .int .u64 x ∧ s8 = .int .i64 l ∧ Least T N n x 0 l q ∧ Ds w ⟨n, ga, gc, gs, xa, xc, xs, za, zc, zs⟩ w'.heap.size q W) (fun _ s _ => N - (intOf s).toNat)
  case atStart => exact ⟨0, -1, ⟨0, 0, 0, 0⟩, by omega, rfl, rfl, Least.start T N n, HD.out⟩
  case round =>
    clear HD k0 k1 k2 k3 hltw o0 o1 o2 o3 hfo q0 q1 q2 q3 hfq hlo hlq
    obtain ⟨x, l, q, hx, rfl, rfl, hl, hd⟩ := hrel
    have HL := Lib.hid hl
    have HD := Lib.hid hd
    clear hl hd
    obtain ⟨⟨-, hltw, k0, k1, k2, k3⟩, ⟨o0, o1, o2, o3⟩, hfo, ⟨q0, q1, q2, q3⟩, hfq, hlo, hlq⟩ := HD.out
    by_cases hltx : x < N
    · obtain ⟨wo, rfl⟩ : ∃ wo : World, wo = wr := ⟨_, rfl⟩
      go_wp2
      go_loopw [8, 10] (fun s8 s10 W => ∃ (z : Nat) (l : Int) (q : Pau), z ≤ N ∧ s10 = .int .u64 z ∧ s8 = .int .i64 l ∧ Least T N n x z l q ∧ Ds w ⟨n, ga, gc, gs, xa, xc, xs, za, zc, zs⟩ w'.heap.size q W) (fun _ s _ => N - (intOf s).toNat)
      case atStart => exact ⟨0, l, q, by omega, rfl, rfl, HL.out, HD.out⟩
      case round =>
        clear HD HL k0 k1 k2 k3 hltw o0 o1 o2 o3 hfo q0 q1 q2 q3 hfq hlo hlq
        obtain ⟨z, l, q, hz, rfl, rfl, hl, hd⟩ := hrel
        have HL := Lib.hid hl
        have HD := Lib.hid hd
        clear hl hd
        obtain ⟨⟨-, hltw, k0, k1, k2, k3⟩, ⟨o0, o1, o2, o3⟩, hfo, ⟨q0, q1, q2, q3⟩, hfq, hlo, hlq⟩ := HD.out
        by_cases hltz : z < N
        · obtain ⟨y, hbb, hww, hT⟩ := HALL.out x z hltx hltz
          have HT := Lib.hid hT
          have HB := Lib.hid (DP.start HD.out ⟨n, x, z, 0⟩)
          have HLOW := Lib.hid HL.out.low
          clear hT
          have hw64 := wt_le64 x z
          obtain ⟨wxz, hwx⟩ : ∃ q, q = wt x z := ⟨_, rfl⟩
          have HWX := Lib.hid hwx.symm
          rw [← hwx] at hww hw64
          clear hwx HD
          have p0 := True.intro
          have p1 := True.intro
          have p2 := True.intro
          have p3 := True.intro
          have hltp := True.intro
          have hb := True.intro
          clear hb
          rcases HLOW.out with rfl | ⟨hl0, hl64⟩
          · clear HLOW
            by_cases hy : y = s
            · have hyI : (((y : Nat) : Int) == (s : Int)) = true := by simp [hy]
              have HN : Hid (Least T N n x (z + 1) (wxz : Nat) ⟨n, x, z, 0⟩) := Lib.hid (by have h8 := HL.out.take (by rw [HT.out, hy]; simp) (.inl rfl); rw [HWX.out] at h8; exact h8)
              clear hy
              go_wp2_with (first | (go_at_call 44; refine (hww _).mono ?_; rintro e w' ⟨rfl, hb⟩; replace HB := Lib.hid (HB.out.step hb); clear hb k0 k1 k2 k3 p0 p1 p2 p3 o0 o1 o2 o3 q0 q1 q2 q3 hfo hfq hlo hlq hltw hltp; obtain ⟨⟨⟨-, hltw, k0, k1, k2, k3⟩, ⟨o0, o1, o2, o3⟩, hfo, ⟨q0, q1, q2, q3⟩, hfq, hlo, hlq⟩, ⟨p0, p1, p2, p3⟩, hltp⟩ := HB.out; simp only at p0 p1 p2 p3) | (go_at_call 38; refine (hbb _ HB.out.d.box.below).mono ?_; rintro e w' ⟨rfl, hb⟩; replace HB := Lib.hid (HB.out.step hb); clear hb k0 k1 k2 k3 p0 p1 p2 p3 o0 o1 o2 o3 q0 q1 q2 q3 hfo hfq hlo hlq hltw hltp; obtain ⟨⟨⟨-, hltw, k0, k1, k2, k3⟩, ⟨o0, o1, o2, o3⟩, hfo, ⟨q0, q1, q2, q3⟩, hfq, hlo, hlq⟩, ⟨p0, p1, p2, p3⟩, hltp⟩ := HB.out; simp only at p0 p1 p2 p3))
              go_roundw
              case rel => exact ⟨z + 1, (wxz : Nat), ⟨n, x, z, 0⟩, by omega, by go_num, by go_num, HN.out, HB.out.d.put ⟨n, x, z, 0⟩⟩
              case measure => simp [intOf]; omega
            · have hyI : (((y : Nat) : Int) == (s : Int)) = false := by simp; omega
              have HN : Hid (Least T N n x (z + 1) (-1) q) := Lib.hid (HL.out.skip (by rw [HT.out]; simpa using hy))
              clear hy
              go_wp2_with (first | (go_at_call 44; refine (hww _).mono ?_; rintro e w' ⟨rfl, hb⟩; replace HB := Lib.hid (HB.out.step hb); clear hb k0 k1 k2 k3 p0 p1 p2 p3 o0 o1 o2 o3 q0 q1 q2 q3 hfo hfq hlo hlq hltw hltp; obtain ⟨⟨⟨-, hltw, k0, k1, k2, k3⟩, ⟨o0, o1, o2, o3⟩, hfo, ⟨q0, q1, q2, q3⟩, hfq, hlo, hlq⟩, ⟨p0, p1, p2, p3⟩, hltp⟩ := HB.out; simp only at p0 p1 p2 p3) | (go_at_call 38; refine (hbb _ HB.out.d.box.below).mono ?_; rintro e w' ⟨rfl, hb⟩; replace HB := Lib.hid (HB.out.step hb); clear hb k0 k1 k2 k3 p0 p1 p2 p3 o0 o1 o2 o3 q0 q1 q2 q3 hfo hfq hlo hlq hltw hltp; obtain ⟨⟨⟨-, hltw, k0, k1, k2, k3⟩, ⟨o0, o1, o2, o3⟩, hfo, ⟨q0, q1, q2, q3⟩, hfq, hlo, hlq⟩, ⟨p0, p1, p2, p3⟩, hltp⟩ := HB.out; simp only at p0 p1 p2 p3))
              go_roundw
              case rel => exact ⟨z + 1, (-1), q, by omega, by go_num, by go_num, HN.out, HB.out.d⟩
              case measure => simp [intOf]; omega
          · by_cases hbw : l ≤ (wxz : Int)
            · have HN : Hid (Least T N n x (z + 1) l q) := Lib.hid (HL.out.keep hl0 (by rw [HWX.out]; exact hbw))
              clear hbb HLOW
              go_wp2_with (first | (go_at_call 44; refine (hww _).mono ?_; rintro e w' ⟨rfl, hb⟩; replace HB := Lib.hid (HB.out.step hb); clear hb k0 k1 k2 k3 p0 p1 p2 p3 o0 o1 o2 o3 q0 q1 q2 q3 hfo hfq hlo hlq hltw hltp; obtain ⟨⟨⟨-, hltw, k0, k1, k2, k3⟩, ⟨o0, o1, o2, o3⟩, hfo, ⟨q0, q1, q2, q3⟩, hfq, hlo, hlq⟩, ⟨p0, p1, p2, p3⟩, hltp⟩ := HB.out; simp only at p0 p1 p2 p3) | (go_at_call 38; refine (hbb _ HB.out.d.box.below).mono ?_; rintro e w' ⟨rfl, hb⟩; replace HB := Lib.hid (HB.out.step hb); clear hb k0 k1 k2 k3 p0 p1 p2 p3 o0 o1 o2 o3 q0 q1 q2 q3 hfo hfq hlo hlq hltw hltp; obtain ⟨⟨⟨-, hltw, k0, k1, k2, k3⟩, ⟨o0, o1, o2, o3⟩, hfo, ⟨q0, q1, q2, q3⟩, hfq, hlo, hlq⟩, ⟨p0, p1, p2, p3⟩, hltp⟩ := HB.out; simp only at p0 p1 p2 p3))
              go_roundw
              case rel => exact ⟨z + 1, l, q, by omega, by go_num, by go_num, HN.out, HB.out.d⟩
              case measure => simp [intOf]; omega
            · have hbwI : (wxz : Int) < l := by omega
              have hlt : (wt x z : Nat) < l := by rw [HWX.out]; omega
              have HLT := Lib.hid hlt
              clear hbw hlt HLOW
              by_cases hy : y = s
              · have hyI : (((y : Nat) : Int) == (s : Int)) = true := by simp [hy]
                have HN : Hid (Least T N n x (z + 1) (wxz : Nat) ⟨n, x, z, 0⟩) := Lib.hid (by have h8 := HL.out.take (by rw [HT.out, hy]; simp) (.inr HLT.out); rw [HWX.out] at h8; exact h8)
                clear hy
                go_wp2_with (first | (go_at_call 44; refine (hww _).mono ?_; rintro e w' ⟨rfl, hb⟩; replace HB := Lib.hid (HB.out.step hb); clear hb k0 k1 k2 k3 p0 p1 p2 p3 o0 o1 o2 o3 q0 q1 q2 q3 hfo hfq hlo hlq hltw hltp; obtain ⟨⟨⟨-, hltw, k0, k1, k2, k3⟩, ⟨o0, o1, o2, o3⟩, hfo, ⟨q0, q1, q2, q3⟩, hfq, hlo, hlq⟩, ⟨p0, p1, p2, p3⟩, hltp⟩ := HB.out; simp only at p0 p1 p2 p3) | (go_at_call 38; refine (hbb _ HB.out.d.box.below).mono ?_; rintro e w' ⟨rfl, hb⟩; replace HB := Lib.hid (HB.out.step hb); clear hb k0 k1 k2 k3 p0 p1 p2 p3 o0 o1 o2 o3 q0 q1 q2 q3 hfo hfq hlo hlq hltw hltp; obtain ⟨⟨⟨-, hltw, k0, k1, k2, k3⟩, ⟨o0, o1, o2, o3⟩, hfo, ⟨q0, q1, q2, q3⟩, hfq, hlo, hlq⟩, ⟨p0, p1, p2, p3⟩, hltp⟩ := HB.out; simp only at p0 p1 p2 p3))
                go_roundw
                case rel => exact ⟨z + 1, (wxz : Nat), ⟨n, x, z, 0⟩, by omega, by go_num, by go_num, HN.out, HB.out.d.put ⟨n, x, z, 0⟩⟩
                case measure => simp [intOf]; omega
              · have hyI : (((y : Nat) : Int) == (s : Int)) = false := by simp; omega
                have HN : Hid (Least T N n x (z + 1) l q) := Lib.hid (HL.out.skip (by rw [HT.out]; simpa using hy))
                clear hy
                go_wp2_with (first | (go_at_call 44; refine (hww _).mono ?_; rintro e w' ⟨rfl, hb⟩; replace HB := Lib.hid (HB.out.step hb); clear hb k0 k1 k2 k3 p0 p1 p2 p3 o0 o1 o2 o3 q0 q1 q2 q3 hfo hfq hlo hlq hltw hltp; obtain ⟨⟨⟨-, hltw, k0, k1, k2, k3⟩, ⟨o0, o1, o2, o3⟩, hfo, ⟨q0, q1, q2, q3⟩, hfq, hlo, hlq⟩, ⟨p0, p1, p2, p3⟩, hltp⟩ := HB.out; simp only at p0 p1 p2 p3) | (go_at_call 38; refine (hbb _ HB.out.d.box.below).mono ?_; rintro e w' ⟨rfl, hb⟩; replace HB := Lib.hid (HB.out.step hb); clear hb k0 k1 k2 k3 p0 p1 p2 p3 o0 o1 o2 o3 q0 q1 q2 q3 hfo hfq hlo hlq hltw hltp; obtain ⟨⟨⟨-, hltw, k0, k1, k2, k3⟩, ⟨o0, o1, o2, o3⟩, hfo, ⟨q0, q1, q2, q3⟩, hfq, hlo, hlq⟩, ⟨p0, p1, p2, p3⟩, hltp⟩ := HB.out; simp only at p0 p1 p2 p3))
                go_roundw
                case rel => exact ⟨z + 1, l, q, by omega, by go_num, by go_num, HN.out, HB.out.d⟩
                case measure => simp [intOf]; omega
        · obtain rfl : z = N := by omega
          have HN := Lib.hid HL.out.row
          go_wp2
          go_roundw
          case rel => exact ⟨x + 1, l, q, by omega, by go_num, rfl, HN.out, HD.out⟩
          case measure => simp [intOf]; omega
    · obtain rfl : x = N := by omega
      have HV : Hid (dv = q) := Lib.hid (HDEC.out l q HL.out)
      go_wp2
      refine bodyPost_ret (v := .tuple #[(Value.agg #[.int .i64 q.n, .int .u64 q.x, .int .u64 q.z, .int .i64 q.ph]), .int .i64 0]) (by simp [results, Try.results19, go_sem, *]) rfl ⟨by rw [HV.out], ?_⟩
      exact put4 HD.out.box.below (by omega) _ _ _ _

set_option maxRecDepth 100000 in
set_option maxHeartbeats 8000000 in
theorem refdecode_calls (c : Cod) (s : Nat) (w : World) (hc : CodAt w c) (hs : U s) :
    Calls Try.prog 19 #[(Value.agg #[.int .i64 c.n, .slice c.ga c.gs.length c.gc, .slice c.xa c.xs.length c.xc, .slice c.za c.zs.length c.zc]), .int .u64 s] w fun e w' => e = .returned (.tuple #[(Value.agg #[.int .i64 (decV c s).n, .int .u64 (decV c s).x, .int .u64 (decV c s).z, .int .i64 (decV c s).ph]), .int .i64 (decE c s)]) ∧ Below w.heap.size w w' := by
  have hcc := fun W (h : Below w.heap.size w W) => refcheck_c c W (hc.below h)
  by_cases A1 : Good c
  · have e1 : errC c = 0 := by simp [errC, A1]
    rw [e1] at hcc
    clear e1
    by_cases A2 : c.n ≤ 8
    · by_cases A3 : s < 2 ^ c.gs.length
      · have e2 : decE c s = 0 := by simp [decE, A1, A2, A3]
        rw [e2]
        exact refdec_in c s w hc hs A1 A2 A3
      · have e2 : decE c s = 2 := by simp [decE, A1, A2, A3]
        have hdz := div_pos A3
        have hgl : (c.gs.length : Int) ≤ 8 := by have h1 := A1.len; omega
        have hn := hc.n
        have hbz : ∀ (w : World), (Instr.build 27 #[]).run Try.prog w = .ok (.agg #[.int .i64 0, .int .u64 0, .int .u64 0, .int .i64 0]) w := fun w => run_build w 27 _ _ (by kernel_rfl)
        have HBX := Lib.hid (D0.start w c)
        have e3 : decV c s = ⟨0, 0, 0, 0⟩ := by rw [decV, if_neg (by rw [e2]; omega)]
        rw [e2, e3]
        clear e2 e3 hc A1
        obtain ⟨n, ga, gc, gs, xa, xc, xs, za, zc, zs⟩ := c
        simp only at HBX hcc hn A2 hgl hdz
        go_enter Try.func19, Try.ntmps19
        go_wp2_with (go_at_call 11; refine (hcc _ HBX.out.box.below).mono ?_; rintro e w' ⟨rfl, hb⟩; replace HBX := Lib.hid (HBX.out.step hb); clear hb; obtain ⟨⟨-, hltw, k0, k1, k2, k3⟩, ⟨o0, o1, o2, o3⟩, hfo, hlo⟩ := HBX.out)
        refine bodyPost_ret (v := .tuple #[(Value.agg #[.int .i64 0, .int .u64 0, .int .u64 0, .int .i64 0]), .int .i64 2]) (by simp [results, Try.results19, go_sem, *]) rfl ⟨rfl, put4 HBX.out.box.below (by omega) _ _ _ _⟩
    · have e2 : decE c s = 1 := by simp [decE, A1, A2]
      have hn := hc.n
      have hbz : ∀ (w : World), (Instr.build 27 #[]).run Try.prog w = .ok (.agg #[.int .i64 0, .int .u64 0, .int .u64 0, .int .i64 0]) w := fun w => run_build w 27 _ _ (by kernel_rfl)
      have HBX := Lib.hid (D0.start w c)
      have e3 : decV c s = ⟨0, 0, 0, 0⟩ := by rw [decV, if_neg (by rw [e2]; omega)]
      rw [e2, e3]
      clear e2 e3 hc A1
      obtain ⟨n, ga, gc, gs, xa, xc, xs, za, zc, zs⟩ := c
      simp only at HBX hcc hn A2
      go_enter Try.func19, Try.ntmps19
      go_wp2_with (go_at_call 11; refine (hcc _ HBX.out.box.below).mono ?_; rintro e w' ⟨rfl, hb⟩; replace HBX := Lib.hid (HBX.out.step hb); clear hb; obtain ⟨⟨-, hltw, k0, k1, k2, k3⟩, ⟨o0, o1, o2, o3⟩, hfo, hlo⟩ := HBX.out)
      refine bodyPost_ret (v := .tuple #[(Value.agg #[.int .i64 0, .int .u64 0, .int .u64 0, .int .i64 0]), .int .i64 1]) (by simp [results, Try.results19, go_sem, *]) rfl ⟨rfl, put4 HBX.out.box.below (by omega) _ _ _ _⟩
  · have e1 : errC c = 230 := by simp [errC, A1]
    have e2 : decE c s = 230 := by simp [decE, A1]
    rw [e1] at hcc
    clear e1
    have hn := hc.n
    have hbz : ∀ (w : World), (Instr.build 27 #[]).run Try.prog w = .ok (.agg #[.int .i64 0, .int .u64 0, .int .u64 0, .int .i64 0]) w := fun w => run_build w 27 _ _ (by kernel_rfl)
    have HBX := Lib.hid (D0.start w c)
    have e3 : decV c s = ⟨0, 0, 0, 0⟩ := by rw [decV, if_neg (by rw [e2]; omega)]
    rw [e2, e3]
    clear e2 e3 hc A1
    obtain ⟨n, ga, gc, gs, xa, xc, xs, za, zc, zs⟩ := c
    simp only at HBX hcc hn
    go_enter Try.func19, Try.ntmps19
    go_wp2_with (go_at_call 11; refine (hcc _ HBX.out.box.below).mono ?_; rintro e w' ⟨rfl, hb⟩; replace HBX := Lib.hid (HBX.out.step hb); clear hb; obtain ⟨⟨-, hltw, k0, k1, k2, k3⟩, ⟨o0, o1, o2, o3⟩, hfo, hlo⟩ := HBX.out)
    refine bodyPost_ret (v := .tuple #[(Value.agg #[.int .i64 0, .int .u64 0, .int .u64 0, .int .i64 0]), .int .i64 230]) (by simp [results, Try.results19, go_sem, *]) rfl ⟨rfl, put4 HBX.out.box.below (by omega) _ _ _ _⟩
end Go.Proofs.Ytfnmembjgclhoaa.CD
