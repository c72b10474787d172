/- Weights, the closures that are searched with. -/
import Derived.Test.YtfnmembjgclhoaaCodP
namespace Go.Proofs.Ytfnmembjgclhoaa.CD
open Go Go.RowKit
set_option linter.unusedVariables false
set_option linter.unusedSimpArgs false
open B (pcs ofB)

def wt (x z : Nat) : Nat := pop (x ||| z)
structure IsFirst (T : Nat → Nat → Bool) (N x z : Nat) : Prop where
  xlt : x < N
  zlt : z < N
  yes : T x z = true
  first : ∀ x', x' < N → ∀ z', z' < N → T x' z' = true → wt x z < wt x' z' ∨ wt x z = wt x' z' ∧ (x < x' ∨ x = x' ∧ z ≤ z')
def NoneOf (T : Nat → Nat → Bool) (N : Nat) : Prop := ∀ x, x < N → ∀ z, z < N → T x z = false
theorem IsFirst.unique {T : Nat → Nat → Bool} {N x z x' z' : Nat} (h : IsFirst T N x z) (h' : IsFirst T N x' z') : x = x' ∧ z = z' := by
  have a := h.first x' h'.xlt z' h'.zlt h'.yes
  have b := h'.first x h.xlt z h.zlt h.yes
  omega
theorem IsFirst.not {T : Nat → Nat → Bool} {N x z : Nat} (h : IsFirst T N x z) (h' : NoneOf T N) : False := by
  have := h' x h.xlt z h.zlt
  rw [h.yes] at this
  cases this

set_option maxRecDepth 100000 in
set_option maxHeartbeats 1000000 in
theorem broken_grew (c : Cod) (p : Pau) (w : World) (hc : CodAt w c) (hp : WF p) (hl : c.gs.length ≤ 64) :
    Calls Try.prog 36 #[(Value.agg #[.int .i64 c.n, .slice c.ga c.gs.length c.gc, .slice c.xa c.xs.length c.xc, .slice c.za c.zs.length c.zc]), (Value.agg #[.int .i64 p.n, .int .u64 p.x, .int .u64 p.z, .int .i64 p.ph])] w fun e w' => e = .returned (.int .u64 (synd c.gs p)) ∧ Grew w w' := by
  have hb0 := ((Grew.refl w).alloc (.cells #[.int .i64 c.n, (Value.slice c.ga c.gs.length c.gc), (Value.slice c.xa c.xs.length c.xc), (Value.slice c.za c.zs.length c.zc)] 24)).alloc (Obj.cells #[.int .i64 p.n, .int .u64 p.x, .int .u64 p.z, .int .i64 p.ph] 27)
  have HR := Lib.hid hc.g
  have HP := Lib.hid hp
  have HB0 := Lib.hid hb0
  have hlI : (c.gs.length : Int) ≤ 64 := by omega
  obtain ⟨gs, hgs⟩ : ∃ gs, gs = c.gs := ⟨_, rfl⟩
  obtain ⟨n, ga, gc, gs, xa, xc, xs, za, zc, zs⟩ := c
  simp only at hgs HR HB0 hlI hl
  subst hgs
  clear hc hp hb0
  go_enter Try.func36, Try.ntmps36
  go_wp2
  go_loopw [5, 11] (fun s i wr => ∃ j : Nat, j ≤ gs.length ∧ i = .int .i64 j ∧ s = .int .u64 ((ofB (aps gs p) j : Nat) : Int) ∧ Grew w wr ∧ Cells4 wr (w.heap.size + 1) 0 p ∧ w.heap.size + 1 < wr.heap.size) (fun _ i _ => gs.length - (intOf i).toNat)
  case atStart => exact ⟨0, Nat.zero_le _, rfl, rfl, HB0.out, by simp [Cells4], by simp⟩
  case round =>
    obtain ⟨j, hj, rfl, rfl, hb, ⟨hp0, hp1, hp2, hp3⟩, hsz⟩ := hrel
    have HB := Lib.hid hb
    clear hb
    by_cases hlt : j < gs.length
    · have hR := HR.out.below HB.out.below
      obtain ⟨b, o, hbl, hidx, hc0, hc1, hc2, hc3⟩ := hR.at j hlt
      have hwf := HR.out.cell j hlt
      have hcc := fun W => apart_calls gs[j] p hwf HP.out W
      have hapt := aps_at (p := p) hlt
      have ho := or_bit (f := aps gs p) (i := j) (by omega)
      have hno := no_bit (f := aps gs p) (i := j)
      cases hA : apt gs[j] p with
      | false =>
        rw [hA] at hcc hapt
        have HNO := Lib.hid (hno hapt)
        have HC4 : Hid (Cells4 wr (w.heap.size + 1) 0 p) := Lib.hid ⟨hp0, hp1, hp2, hp3⟩
        clear hA hapt ho hno hwf hR
        generalize gs[j] = g at *
        go_wp2_with (go_at_call 29; refine (hcc _).mono ?_; rintro e w' ⟨rfl, hg⟩; obtain ⟨hbc, hbf⟩ := bcell hg.below; have HG := Lib.hid hg; clear hg)
        go_roundw
        case rel =>
          have hgw : Grew wr w' := ((Grew.refl wr).alloc _).trans HG.out
          have hbw := hgw.below
          exact ⟨j + 1, by omega, by go_num, by rw [HNO.out], HB.out.trans hgw, HC4.out.below hsz hbw, Nat.lt_of_lt_of_le hsz hbw.size⟩
        case measure => simp [intOf]; omega
      | true =>
        rw [hA] at hcc hapt
        have HNO := Lib.hid (ho hapt)
        have HC4 : Hid (Cells4 wr (w.heap.size + 1) 0 p) := Lib.hid ⟨hp0, hp1, hp2, hp3⟩
        clear hA hapt ho hno hwf hR
        generalize gs[j] = g at *
        go_wp2_with (go_at_call 29; refine (hcc _).mono ?_; rintro e w' ⟨rfl, hg⟩; obtain ⟨hbc, hbf⟩ := bcell hg.below; have HG := Lib.hid hg; clear hg)
        go_roundw
        case rel =>
          have hgw : Grew wr w' := ((Grew.refl wr).alloc _).trans HG.out
          have hbw := hgw.below
          exact ⟨j + 1, by omega, by go_num, by rw [HNO.out], HB.out.trans hgw, HC4.out.below hsz hbw, Nat.lt_of_lt_of_le hsz hbw.size⟩
        case measure => simp [intOf]; omega
    · obtain rfl : j = gs.length := by omega
      go_wp2
      go_ret
      exact ⟨rfl, HB.out⟩


set_option maxRecDepth 100000 in
set_option maxHeartbeats 1000000 in
theorem refweight_calls (p : Pau) (hp : WF p) (w : World) : Calls Try.prog 44 #[(Value.agg #[.int .i64 p.n, .int .u64 p.x, .int .u64 p.z, .int .i64 p.ph])] w fun e w' => e = .returned (.int .i64 (pop (p.x ||| p.z))) ∧ Below w.heap.size w w' := by
  have hor := or_eq hp.x hp.z
  have HU := Lib.hid (u_or hp.x hp.z)
  clear hp
  go_enter Try.func44, Try.ntmps44
  go_wp2
  go_loopw [3, 4] (fun s n wr => ∃ j : Nat, j ≤ 64 ∧ n = .int .i64 j ∧ s = .int .i64 ((pcs j (p.x ||| p.z) : Nat) : Int) ∧ wr = w.alloc (Obj.cells #[.int .i64 p.n, .int .u64 p.x, .int .u64 p.z, .int .i64 p.ph] 27)) (fun _ n _ => 64 - (intOf n).toNat)
  case atStart => exact ⟨0, by omega, rfl, rfl, rfl⟩
  case round =>
    obtain ⟨j, hj, rfl, rfl, rfl⟩ := hrel
    by_cases hlt : j < 64
    · have e1 := bit_eq (j := j) HU.out
      have t1 := B.pcs_succ j (p.x ||| p.z)
      have r1 := bI_01 ((p.x ||| p.z).testBit j)
      have l1 := B.pcs_le j (p.x ||| p.z)
      have t3 : (((pcs j (p.x ||| p.z) : Nat) : Int)) + bI ((p.x ||| p.z).testBit j) = (((pcs (j + 1) (p.x ||| p.z) : Nat) : Int)) := by
        rw [t1, bI_wt]
        push_cast
        rfl
      have T := Lib.hid t3
      clear t1 t3
      generalize bI ((p.x ||| p.z).testBit j) = P1 at *
      obtain ⟨r1, r1'⟩ := r1
      go_wp2
      go_roundw
      case rel => exact ⟨j + 1, by omega, by go_num, by rw [← T.out], trivial⟩
      case measure => simp [intOf]; omega
    · obtain rfl : j = 64 := by omega
      go_wp2
      go_ret
      exact ⟨rfl, below1 _ _⟩

/-- A code's box, wherever. -/
structure Boxed (W : World) (B : Nat) (c : Cod) : Prop where
  lt : B < W.heap.size
  c0 : W.cell? ⟨B, 0, none⟩ = some (.int .i64 c.n)
  c1 : W.cell? ⟨B, 1, none⟩ = some (Value.slice c.ga c.gs.length c.gc)
  c2 : W.cell? ⟨B, 2, none⟩ = some (Value.slice c.xa c.xs.length c.xc)
  c3 : W.cell? ⟨B, 3, none⟩ = some (Value.slice c.za c.zs.length c.zc)
theorem Boxed.below {W W' : World} {B : Nat} {c : Cod} (h : Boxed W B c) (hb : Below W.heap.size W W') : Boxed W' B c :=
  ⟨Nat.lt_of_lt_of_le h.lt hb.size, (hb.cell (p := ⟨B, 0, none⟩) h.lt).trans h.c0, (hb.cell (p := ⟨B, 1, none⟩) h.lt).trans h.c1, (hb.cell (p := ⟨B, 2, none⟩) h.lt).trans h.c2, (hb.cell (p := ⟨B, 3, none⟩) h.lt).trans h.c3⟩

/-- What the distance looks for; what decoding looks for. -/
def does (c : Cod) (p : Pau) : Bool := ((logic c.xs c.zs p).x ||| (logic c.xs c.zs p).z) != 0 && synd c.gs p == 0
def shows (c : Cod) (s : Nat) (p : Pau) : Bool := synd c.gs p == s

set_option maxRecDepth 100000 in
set_option maxHeartbeats 2000000 in
theorem shows_calls (c : Cod) (p : Pau) (s B S : Nat) (w : World) (hg : Good c) (hc : CodAt w c) (hp : WF p) (hb : Boxed w B c) (hs : w.cell? ⟨S, 0, none⟩ = some (.int .u64 s)) :
    Calls Try.prog 45 #[(Value.agg #[.int .i64 p.n, .int .u64 p.x, .int .u64 p.z, .int .i64 p.ph]), .pointer (some ⟨B, 0, none⟩), .pointer (some ⟨S, 0, none⟩)] w fun e w' => e = .returned (.bool (shows c s p)) ∧ Below w.heap.size w w' := by
  have hL := below1 w (Obj.cells #[.int .i64 p.n, .int .u64 p.x, .int .u64 p.z, .int .i64 p.ph] 27)
  have hb1 := hb.below hL
  have hs1 : (w.alloc (Obj.cells #[.int .i64 p.n, .int .u64 p.x, .int .u64 p.z, .int .i64 p.ph] 27)).cell? ⟨S, 0, none⟩ = some (.int .u64 s) := (hL.cell (p := ⟨S, 0, none⟩) (block_lt hs)).trans hs
  have hp1 : Cells4 (w.alloc (Obj.cells #[.int .i64 p.n, .int .u64 p.x, .int .u64 p.z, .int .i64 p.ph] 27)) w.heap.size 0 p := Cells4.of (newAt _ _ rfl)
  have hz1 : w.heap.size < (w.alloc (Obj.cells #[.int .i64 p.n, .int .u64 p.x, .int .u64 p.z, .int .i64 p.ph] 27)).heap.size := by simp
  have HC1 := Lib.hid (hc.below hL)
  have HL := Lib.hid hL
  have hSH : ((((synd c.gs p : Nat) : Int) == (s : Int)) = shows c s p) := by
    unfold shows
    rw [Bool.eq_iff_iff]; simp; omega
  clear hb hs hL hc
  go_enter Try.func45, Try.ntmps45
  go_wp2_with fail
  generalize w.alloc (Obj.cells #[.int .i64 p.n, .int .u64 p.x, .int .u64 p.z, .int .i64 p.ph] 27) = W1 at hb1 hs1 hp1 hz1 HC1 HL ⊢
  have hcg := fun n os => broken_grew c p (Go.Sort.grow (W1.drewN n) os) (HC1.out.below (Grew.below ⟨n, os, rfl⟩)) hp hg.gl
  obtain ⟨hlt, k0, k1, k2, k3⟩ := hb1
  obtain ⟨p0, p1, p2, p3⟩ := hp1
  have hSl := block_lt hs1
  have HGO := fun n os (b o : Nat) h => grown_old (w := W1) n os b o h
  have mixed := mixed
  have HSH := Lib.hid hSH
  clear hg hp HC1 hSH
  obtain ⟨n, ga, gc, gs, xa, xc, xs, za, zc, zs⟩ := c
  simp only at k0 k1 k2 k3 hcg HSH
  generalize hsy : synd gs p = y at hcg HSH
  refine wp_region_quiet_grown (by assumption) (by kernel_rfl) ?_
  repeat (go_big_quiet_step ((go_at_call 36; exact Calls.grown_of (hcg _ _))))
  refine wpQuiet_nil ?_
  intro _ hw'
  obtain ⟨⟨nq, osq⟩, hw''⟩ := hw'
  subst hw''
  go_wp2
  go_ret
  exact ⟨ret_bool HSH.out, HL.out.trans ((Grew.below ⟨_, _, rfl⟩).mono HL.out.size)⟩

/-- What the closure that measures answers. -/
theorem does_eq (c : Cod) (p : Pau) : does c p = (((logic c.xs c.zs p).x ||| (logic c.xs c.zs p).z) != 0 && synd c.gs p == 0) := rfl
theorem logic_wf {c : Cod} (hg : Good c) (p : Pau) : WF (logic c.xs c.zs p) := by
  have h := hg.xl
  refine ⟨ofB_U _ h, ofB_U _ h, ?_, ?_⟩
  · unfold I64 logic; simp only; omega
  · unfold I64 logic; simp only; omega
set_option maxRecDepth 100000 in
set_option maxHeartbeats 2000000 in
theorem does_calls (c : Cod) (p : Pau) (B : Nat) (w : World) (hg : Good c) (hc : CodAt w c) (hp : WF p) (hb : Boxed w B c) :
    Calls Try.prog 42 #[(Value.agg #[.int .i64 p.n, .int .u64 p.x, .int .u64 p.z, .int .i64 p.ph]), .pointer (some ⟨B, 0, none⟩)] w fun e w' => e = .returned (.bool (does c p)) ∧ Below w.heap.size w w' := by
  have hL := below1 w (Obj.cells #[.int .i64 p.n, .int .u64 p.x, .int .u64 p.z, .int .i64 p.ph] 27)
  have hd := fun W (h : Below w.heap.size w W) => done_calls c p W (hc.below h) hp hg.xl hg.lz
  have hbr := fun W (h : Below w.heap.size w W) => broken_calls c p W (hc.below h) hp hg.gl
  have hlw := logic_wf hg p
  have HD := Lib.hid (does_eq c p)
  generalize logic c.xs c.zs p = l at hd hlw HD
  have hor := or_eq hlw.x hlw.z
  have HBX := Lib.hid hb
  have HL := Lib.hid hL
  have HP4 : Hid (Cells4 (w.alloc (Obj.cells #[.int .i64 p.n, .int .u64 p.x, .int .u64 p.z, .int .i64 p.ph] 27)) w.heap.size 0 p) := Lib.hid (Cells4.of (newAt _ _ rfl))
  obtain ⟨hlt, k0, k1, k2, k3⟩ := hb
  clear hg hc hp hlw hL
  obtain ⟨n, ga, gc, gs, xa, xc, xs, za, zc, zs⟩ := c
  simp only at k0 k1 k2 k3 hd hbr HD
  generalize hsy : synd gs p = y at hbr HD
  clear hsy
  cases h1 : ((l.x ||| l.z) != 0) with
  | false =>
    have h1' : (((l.x ||| l.z : Nat) : Int) != 0) = false := by simpa using h1
    rw [h1] at HD
    clear h1
    go_enter Try.func42, Try.ntmps42
    go_wp2_with (go_at_call 39; refine (hd _ HL.out).mono ?_; rintro e w' ⟨rfl, hb⟩; have HBX2 := Lib.hid ((HBX.out.below HL.out).below hb); have HP2 := Lib.hid (HP4.out.below (by simp) hb); have HW := Lib.hid (HL.out.trans (hb.mono HL.out.size)); have hs2 : w.heap.size < w'.heap.size := (by have hq := hb.size; simp at hq; omega); clear hb k0 k1 k2 k3; obtain ⟨hlt2, k0, k1, k2, k3⟩ := HBX2.out; obtain ⟨p0, p1, p2, p3⟩ := HP2.out)
    go_ret
    exact ⟨ret_bool (by rw [HD.out]; rfl), HW.out.alloc HW.out.size _⟩
  | true =>
    have h1' : (((l.x ||| l.z : Nat) : Int) != 0) = true := by simpa using h1
    rw [h1] at HD
    clear h1
    have hyy : (((y : Nat) : Int) == 0) = (y == 0) := by rw [Bool.eq_iff_iff]; simp
    have HYY := Lib.hid hyy
    clear hyy
    go_enter Try.func42, Try.ntmps42
    go_wp2_with (first | (go_at_call 39; refine (hd _ HL.out).mono ?_; rintro e w' ⟨rfl, hb⟩; have HBX2 := Lib.hid ((HBX.out.below HL.out).below hb); have HP2 := Lib.hid (HP4.out.below (by simp) hb); have HW := Lib.hid (HL.out.trans (hb.mono HL.out.size)); have hs2 : w.heap.size < w'.heap.size := (by have hq := hb.size; simp at hq; omega); clear hb k0 k1 k2 k3; obtain ⟨hlt2, k0, k1, k2, k3⟩ := HBX2.out; obtain ⟨p0, p1, p2, p3⟩ := HP2.out) | (go_at_call 36; refine (hbr _ (HW.out.alloc HW.out.size (Obj.cells #[.int .i64 l.n, .int .u64 l.x, .int .u64 l.z, .int .i64 l.ph] 27))).mono ?_; rintro e w'' ⟨rfl, hb⟩; have HB3 := Lib.hid hb; clear hb))
    go_ret
    exact ⟨ret_bool (by rw [HD.out, HYY.out]; rfl), HW.out.trans ((via1 HB3.out).mono HW.out.size)⟩
end Go.Proofs.Ytfnmembjgclhoaa.CD
