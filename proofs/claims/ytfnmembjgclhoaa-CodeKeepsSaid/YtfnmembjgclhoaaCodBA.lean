/- Products of strings: plain. -/
import Derived.Test.YtfnmembjgclhoaaCodZ
namespace Go.Proofs.Ytfnmembjgclhoaa.CD
open Go Go.RowKit
set_option linter.unusedVariables false
set_option linter.unusedSimpArgs false
open B (pcs ofB)

def mulP (p q : Pau) : Pau := ⟨p.n, p.x ^^^ q.x, p.z ^^^ q.z, (p.ph + (pop (p.x &&& p.z) : Nat) + q.ph + (pop (q.x &&& q.z) : Nat) + 2 * (pop (p.z &&& q.x) : Nat) - (pop ((p.x ^^^ q.x) &&& (p.z ^^^ q.z)) : Nat)) % 4⟩
theorem mulP_ok {p q : Pau} (hp : Ok p) (hq : Ok q) (hn : p.n = q.n) : Ok (mulP p q) := by
  refine ⟨hp.n0, hp.n1, ?_, ?_, Nat.xor_lt_two_pow hp.x (hn ▸ hq.x), Nat.xor_lt_two_pow hp.z (hn ▸ hq.z)⟩
  · unfold mulP; simp only; omega
  · unfold mulP; simp only; omega
theorem pcs_xor2 (a b c : Nat) : ∀ n, pcs n (a &&& (b ^^^ c)) % 2 = (pcs n (a &&& b) + pcs n (a &&& c)) % 2 := by
  intro n
  induction n with
  | zero => rfl
  | succ n ih =>
    rw [B.pcs_succ, B.pcs_succ, B.pcs_succ]
    simp only [Nat.testBit_and, Nat.testBit_xor]
    cases a.testBit n <;> cases b.testBit n <;> cases c.testBit n <;> simp [B.wt] <;> omega
theorem pop_xor2 (a b c : Nat) : pop (a &&& (b ^^^ c)) % 2 = (pop (a &&& b) + pop (a &&& c)) % 2 := pcs_xor2 a b c 64
theorem apt_mul (g p q : Pau) : apt g (mulP p q) = (apt g p ^^ apt g q) := by
  have h1 := pop_xor2 g.x p.z q.z
  have h2 := pop_xor2 g.z p.x q.x
  unfold apt mulP
  simp only
  generalize pop (g.x &&& (p.z ^^^ q.z)) = A at *
  generalize pop (g.z &&& (p.x ^^^ q.x)) = B at *
  generalize pop (g.x &&& p.z) = C at *
  generalize pop (g.x &&& q.z) = D at *
  generalize pop (g.z &&& p.x) = E at *
  generalize pop (g.z &&& q.x) = F at *
  have ha := Nat.mod_two_eq_zero_or_one (C + E)
  have hb := Nat.mod_two_eq_zero_or_one (D + F)
  rcases ha with ha | ha <;> rcases hb with hb | hb <;> simp [ha, hb] <;> omega
theorem aps_mul (l : List Pau) (p q : Pau) (i : Nat) : aps l (mulP p q) i = (aps l p i ^^ aps l q i) := by
  unfold aps
  cases l[i]? with
  | none => rfl
  | some g => exact apt_mul g p q
theorem ofB_xor (f g : Nat → Bool) (n : Nat) : ofB (fun i => f i ^^ g i) n = ofB f n ^^^ ofB g n := by
  refine Nat.eq_of_testBit_eq fun i => ?_
  rw [Nat.testBit_xor, B.testBit_ofB, B.testBit_ofB, B.testBit_ofB]
  cases decide (i < n) <;> simp
theorem ofB_mul (l : List Pau) (p q : Pau) (n : Nat) : ofB (aps l (mulP p q)) n = ofB (aps l p) n ^^^ ofB (aps l q) n := by
  rw [← ofB_xor]
  congr 1
  funext i
  exact aps_mul l p q i
theorem synd_mul (l : List Pau) (p q : Pau) : synd l (mulP p q) = synd l p ^^^ synd l q := ofB_mul l p q _
theorem logic_mul (xs zs : List Pau) (p q : Pau) : (logic xs zs (mulP p q)).x = (logic xs zs p).x ^^^ (logic xs zs q).x ∧ (logic xs zs (mulP p q)).z = (logic xs zs p).z ^^^ (logic xs zs q).z := ⟨ofB_mul zs p q _, ofB_mul xs p q _⟩
theorem pcs_sub (a b c d : Nat) : ∀ n, pcs n ((a ^^^ b) ||| (c ^^^ d)) ≤ pcs n (a ||| c) + pcs n (b ||| d) := by
  intro n
  induction n with
  | zero => exact Nat.le_refl _
  | succ n ih =>
    rw [B.pcs_succ, B.pcs_succ, B.pcs_succ]
    simp only [Nat.testBit_or, Nat.testBit_xor]
    cases a.testBit n <;> cases b.testBit n <;> cases c.testBit n <;> cases d.testBit n <;> simp [B.wt] <;> omega
theorem wt_mul (p q : Pau) : wt (mulP p q).x (mulP p q).z ≤ wt p.x p.z + wt q.x q.z := pcs_sub p.x q.x p.z q.z 64
/-- The strings that break nothing of a list. -/
def Quiet (l : List Pau) (p : Pau) : Prop := ∀ g ∈ l, apt g p = false
theorem Quiet.mul {l : List Pau} {p q : Pau} (hp : Quiet l p) (hq : Quiet l q) : Quiet l (mulP p q) := fun g hg => by
  rw [apt_mul, hp g hg, hq g hg]; rfl
theorem ofB_zero2 {f : Nat → Bool} {n : Nat} (h : ∀ i, f i = false) : ofB f n = 0 := by
  refine Nat.eq_of_testBit_eq fun i => ?_
  rw [B.testBit_ofB, h]
  simp
theorem Quiet.aps {l : List Pau} {p : Pau} (h : Quiet l p) (i : Nat) : aps l p i = false := by
  unfold CD.aps
  cases e : l[i]? with
  | none => rfl
  | some g => exact h g (List.mem_of_getElem? e)
theorem Quiet.synd {l : List Pau} {p : Pau} (h : Quiet l p) : synd l p = 0 := ofB_zero2 h.aps
theorem Quiet.logic {xs zs : List Pau} {p : Pau} (hx : Quiet xs p) (hz : Quiet zs p) : (logic xs zs p).x = 0 ∧ (logic xs zs p).z = 0 := ⟨ofB_zero2 hz.aps, ofB_zero2 hx.aps⟩
theorem apt_eye (g : Pau) (n ph : Int) : apt g ⟨n, 0, 0, ph⟩ = false := by
  have h0 : pop 0 = 0 := by decide
  unfold apt
  simp [h0]
/-- The sum over the generators that a word picks stays within the stabilizer. -/
theorem Good.quiet {c : Cod} (h : Good c) {p : Pau} (hp : p ∈ c.gs) : Quiet c.gs p ∧ Quiet c.xs p ∧ Quiet c.zs p :=
  ⟨fun g hg => h.gg g hg p hp, fun g hg => by rw [apt_comm]; exact h.gx p hp g hg, fun g hg => by rw [apt_comm]; exact h.gz p hp g hg⟩

/-! what Decode tells -/
theorem dec_first {c : Cod} {p : Pau} (h : err2 c p = 0) (h8 : c.n ≤ 8) : decE c (synd c.gs p) = 0 ∧ ∃ x z, decV c (synd c.gs p) = ⟨c.n, x, z, 0⟩ ∧ Ok ⟨c.n, x, z, 0⟩ ∧ synd c.gs ⟨c.n, x, z, 0⟩ = synd c.gs p ∧ wt x z ≤ wt p.x p.z := by
  obtain ⟨hg, ho, hn⟩ := good_of_err2 h
  have hs : synd c.gs p < 2 ^ c.gs.length := B.ofB_lt' _ _
  have he : decE c (synd c.gs p) = 0 := by
    unfold decE
    rw [if_pos hg, if_pos h8, if_pos hs]
  have hpx : p.x < nn c := by unfold nn; rw [← hn]; exact ho.x
  have hpz : p.z < nn c := by unfold nn; rw [← hn]; exact ho.z
  have hap : ∀ g, apt g ⟨c.n, p.x, p.z, 0⟩ = apt g p := fun g => rfl
  have hsy : synd c.gs ⟨c.n, p.x, p.z, 0⟩ = synd c.gs p := rfl
  have hT : TS c (synd c.gs p) p.x p.z = true := by unfold TS shows; rw [hsy]; simp
  obtain ⟨x, z, hf⟩ := first_of hpx hpz hT
  have hd := decV_eq he (.inl ⟨x, z, hf, rfl⟩ : IsDec c (synd c.gs p) ⟨c.n, x, z, 0⟩)
  refine ⟨he, x, z, hd, ⟨?_, hg.n2, by simp, by simp, hf.xlt, hf.zlt⟩, ?_, ?_⟩
  · have := hg.n1; simp only; omega
  · have h1 := hf.yes
    unfold TS shows at h1
    exact eq_of_beq h1
  · have h1 := hf.first _ hpx _ hpz hT
    omega
/-- Below half the distance a string that breaks nothing does nothing. -/
theorem dist_none {c : Cod} {r : Pau} (hg : Good c) (h8 : c.n ≤ 8) (ho : Ok r) (hn : r.n = c.n) (hs : synd c.gs r = 0) (hw : (wt r.x r.z : Int) < distV c) : (logic c.xs c.zs r).x = 0 ∧ (logic c.xs c.zs r).z = 0 := by
  have hx : r.x < nn c := by unfold nn; rw [← hn]; exact ho.x
  have hz : r.z < nn c := by unfold nn; rw [← hn]; exact ho.z
  have hT : TD c r.x r.z = false := by
    cases e : TD c r.x r.z with
    | false => rfl
    | true =>
      exfalso
      obtain ⟨x, z, hf⟩ := first_of hx hz e
      have hd : distV c = (wt x z : Nat) := distV_eq hg h8 (.inl ⟨x, z, hf, rfl⟩)
      have h1 := hf.first _ hx _ hz e
      omega
  unfold TD does at hT
  have e1 : synd c.gs ⟨c.n, r.x, r.z, 0⟩ = 0 := hs
  rw [e1] at hT
  simp only [beq_self_eq_true, Bool.and_true, bne_eq_false_iff_eq] at hT
  have e2 : (logic c.xs c.zs ⟨c.n, r.x, r.z, 0⟩) = logic c.xs c.zs r := rfl
  rw [e2] at hT
  exact Nat.or_eq_zero_iff.1 hT
end Go.Proofs.Ytfnmembjgclhoaa.CD
