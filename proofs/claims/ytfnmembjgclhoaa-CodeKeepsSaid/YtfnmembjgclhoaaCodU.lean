/- Distance, Decode: walked. -/
import Derived.Test.YtfnmembjgclhoaaCodR
namespace Go.Proofs.Ytfnmembjgclhoaa.CD
open Go Go.RowKit
set_option linter.unusedVariables false
set_option linter.unusedSimpArgs false
open B (pcs ofB)

def TD (c : Cod) (x z : Nat) : Bool := does c ⟨c.n, x, z, 0⟩
def TS (c : Cod) (s x z : Nat) : Bool := shows c s ⟨c.n, x, z, 0⟩
def nn (c : Cod) : Nat := 2 ^ c.n.toNat
def IsDist (c : Cod) (d : Int) : Prop := (∃ x z, IsFirst (TD c) (nn c) x z ∧ d = (wt x z : Nat)) ∨ (NoneOf (TD c) (nn c) ∧ d = 0)
def IsDec (c : Cod) (s : Nat) (q : Pau) : Prop := (∃ x z, IsFirst (TS c s) (nn c) x z ∧ q = ⟨c.n, x, z, 0⟩) ∨ (NoneOf (TS c s) (nn c) ∧ q = ⟨0, 0, 0, 0⟩)
theorem IsDist.unique {c : Cod} {d d' : Int} (h : IsDist c d) (h' : IsDist c d') : d = d' := by
  rcases h with ⟨x, z, hf, rfl⟩ | ⟨hn, rfl⟩ <;> rcases h' with ⟨x', z', hf', rfl⟩ | ⟨hn', rfl⟩
  · obtain ⟨rfl, rfl⟩ := hf.unique hf'; rfl
  · exact (hf.not hn').elim
  · exact (hf'.not hn).elim
  · rfl
theorem IsDec.unique {c : Cod} {s : Nat} {d d' : Pau} (h : IsDec c s d) (h' : IsDec c s d') : d = d' := by
  rcases h with ⟨x, z, hf, rfl⟩ | ⟨hn, rfl⟩ <;> rcases h' with ⟨x', z', hf', rfl⟩ | ⟨hn', rfl⟩
  · obtain ⟨rfl, rfl⟩ := hf.unique hf'; rfl
  · exact (hf.not hn').elim
  · exact (hf'.not hn).elim
  · rfl
open Classical in
noncomputable def distV (c : Cod) : Int := if Good c ∧ c.n ≤ 8 then Classical.epsilon (IsDist c) else 0
open Classical in
noncomputable def distE (c : Cod) : Int := if Good c then if c.n ≤ 8 then 0 else 1 else 230
open Classical in
noncomputable def decE (c : Cod) (s : Nat) : Int := if Good c then if c.n ≤ 8 then if s < 2 ^ c.gs.length then 0 else 2 else 1 else 230
open Classical in
noncomputable def decV (c : Cod) (s : Nat) : Pau := if decE c s = 0 then @Classical.epsilon Pau ⟨⟨0, 0, 0, 0⟩⟩ (IsDec c s) else ⟨0, 0, 0, 0⟩
theorem distV_eq {c : Cod} (hg : Good c) (h8 : c.n ≤ 8) {d : Int} (h : IsDist c d) : distV c = d := by
  unfold distV
  rw [if_pos ⟨hg, h8⟩]
  exact (Classical.epsilon_spec ⟨d, h⟩ : IsDist c _).unique h
theorem decV_eq {c : Cod} {s : Nat} (he : decE c s = 0) {d : Pau} (h : IsDec c s d) : decV c s = d := by
  unfold decV
  rw [if_pos he]
  exact (Classical.epsilon_spec (p := IsDec c s) ⟨d, h⟩ : IsDec c s _).unique h
theorem nn_le {c : Cod} (h8 : c.n ≤ 8) : nn c ≤ 256 := by
  unfold nn
  exact Nat.pow_le_pow_right (by omega) (show c.n.toNat ≤ 8 by omega) (n := 2)
theorem pau_wf {c : Cod} (hn : I64 c.n) (h8 : c.n ≤ 8) {x z : Nat} (hx : x < nn c) (hz : z < nn c) : WF ⟨c.n, x, z, 0⟩ := by
  have := nn_le h8
  exact ⟨by unfold U; simp only; omega, by unfold U; simp only; omega, hn, by unfold I64; simp only; omega⟩
theorem BoxSt.boxed {w W : World} {c : Cod} (h : BoxSt w c W) : Boxed W w.heap.size c := ⟨h.lt, h.c0, h.c1, h.c2, h.c3⟩

set_option maxRecDepth 100000 in
set_option maxHeartbeats 4000000 in
theorem distance_calls (c : Cod) (w : World) (hc : CodAt w c) :
    Calls Try.prog 16 #[(Value.agg #[.int .i64 c.n, .slice c.ga c.gs.length c.gc, .slice c.xa c.xs.length c.xc, .slice c.za c.zs.length c.zc])] w fun e w' => e = .returned (.tuple #[.int .i64 (distV c), .int .i64 (distE c)]) ∧ Below w.heap.size w w' := by
  have HBX := Lib.hid (BoxSt.start w c)
  have hcc := fun W (h : Below w.heap.size w W) => check_c c W (hc.below h)
  have hn := hc.n
  have hmf : ∀ (fn : Fn) (first cap : Array Value) (w : World), (Instr.makeFunc fn first cap).run Try.prog w = .ok (.func fn first cap) w := fun _ _ _ _ => rfl
  by_cases A1 : Good c
  · have e1 : errC c = 0 := by simp [errC, A1]
    rw [e1] at hcc
    by_cases A2 : c.n ≤ 8
    · have hsd := fun W (h : BoxSt w c W) => search_does w.heap.size (TD c) c.n.toNat (nn c) (by omega) rfl W (fun W' x z hb hx hz => by
        have hW' := h.step hb
        have h1 := does_calls c ⟨c.n, x, z, 0⟩ w.heap.size W' A1 (hc.below hW'.below) (pau_wf hn A2 hx hz) hW'.boxed
        rw [show ((c.n.toNat : Nat) : Int) = c.n by have := A1.n1; omega]
        exact h1)
      have e2 : distE c = 0 := by simp [distE, A1, A2]
      have HDV := Lib.hid (fun d => distV_eq A1 A2 (d := d))
      have hnn : ((c.n.toNat : Nat) : Int) = c.n := by have := A1.n1; omega
      have HNL := Lib.hid (nn_le A2)
      have hn1 := A1.n1
      rw [e2]
      simp only [Searched, hnn] at hsd
      unfold IsDist at HDV
      clear e1 e2 hc hnn A1
      generalize distV c = dv at HDV ⊢
      generalize TD c = T at hsd HDV
      generalize nn c = N at hsd HDV HNL
      obtain ⟨n, ga, gc, gs, xa, xc, xs, za, zc, zs⟩ := c
      simp only at HBX hcc hsd hn A2 hn1
      go_enter Try.func16, Try.ntmps16
      go_wp2_with (go_at_call 10; refine (hcc _ HBX.out.below).mono ?_; rintro e w' ⟨rfl, hb⟩; replace HBX := Lib.hid (HBX.out.step hb); clear hb; obtain ⟨-, hltw, k0, k1, k2, k3⟩ := HBX.out)
      go_at_call 41
      refine (hsd _ HBX.out).mono ?_
      rintro e w2 ⟨⟨x, z, hF, rfl⟩ | ⟨hN, rfl⟩, hb⟩
      · have HB := Lib.hid hb
        have HF : Hid (dv = (wt x z : Nat)) := Lib.hid (HDV.out _ (.inl ⟨x, z, hF, rfl⟩))
        have hux : U x := by have := hF.xlt; have := HNL.out; unfold U; omega
        have huz : U z := by have := hF.zlt; have := HNL.out; unfold U; omega
        have hor := or_eq hux huz
        have hc2 := fun W => ones_calls (x ||| z) (u_or hux huz) W
        clear hF hux huz hb
        go_wp2_with (go_at_call 43; refine (hc2 _).mono ?_; rintro e w' ⟨rfl, rfl⟩)
        refine bodyPost_ret (v := .tuple #[.int .i64 (pop (x ||| z)), .int .i64 0]) (by simp [results, Try.results16, go_sem]) rfl ⟨by rw [HF.out]; rfl, ?_⟩
        have h9 := (HBX.out.step HB.out).below
        exact h9.alloc h9.size _
      · have HB := Lib.hid hb
        have HF : Hid (dv = 0) := Lib.hid (HDV.out _ (.inr ⟨hN, rfl⟩))
        clear hN hb
        go_wp2_with fail
        refine bodyPost_ret (v := .tuple #[.int .i64 0, .int .i64 0]) (by simp [results, Try.results16, go_sem]) rfl ⟨by rw [HF.out], ?_⟩
        have h9 := (HBX.out.step HB.out).below
        exact h9.alloc h9.size _
    · have e2 : distE c = 1 := by simp [distE, A1, A2]
      have e3 : distV c = 0 := by simp [distV, A2]
      rw [e2, e3]
      clear e1 e2 e3 hc A1
      obtain ⟨n, ga, gc, gs, xa, xc, xs, za, zc, zs⟩ := c
      simp only at HBX hcc hn A2
      go_enter Try.func16, Try.ntmps16
      go_wp2_with (go_at_call 10; refine (hcc _ HBX.out.below).mono ?_; rintro e w' ⟨rfl, hb⟩; replace HBX := Lib.hid (HBX.out.step hb); clear hb; obtain ⟨-, hltw, k0, k1, k2, k3⟩ := HBX.out)
      refine bodyPost_ret (v := .tuple #[.int .i64 0, .int .i64 1]) (by simp [results, Try.results16, go_sem]) rfl ⟨rfl, HBX.out.below⟩
  · have e1 : errC c = 230 := by simp [errC, A1]
    have e2 : distE c = 230 := by simp [distE, A1]
    have e3 : distV c = 0 := by simp [distV, A1]
    rw [e1] at hcc
    rw [e2, e3]
    clear e1 e2 e3 hc A1
    obtain ⟨n, ga, gc, gs, xa, xc, xs, za, zc, zs⟩ := c
    simp only at HBX hcc hn
    go_enter Try.func16, Try.ntmps16
    go_wp2_with (go_at_call 10; refine (hcc _ HBX.out.below).mono ?_; rintro e w' ⟨rfl, hb⟩; replace HBX := Lib.hid (HBX.out.step hb); clear hb; obtain ⟨-, hltw, k0, k1, k2, k3⟩ := HBX.out)
    refine bodyPost_ret (v := .tuple #[.int .i64 0, .int .i64 230]) (by simp [results, Try.results16, go_sem]) rfl ⟨rfl, HBX.out.below⟩
end Go.Proofs.Ytfnmembjgclhoaa.CD
