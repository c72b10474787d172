/- LexPlaces: each token stands in the text at its place, one behind the other, with blanks and remarks alone between; for every text. -/
import Derived.Test.YtkonklmgkkbnmaaPAx8
import Derived.Test.YtkonklmgkkbnmaaLexToks
import Derived.Test.YtkonklmgkkbnmaaPureLexScans
namespace Go.Proofs.Ytkonklmgkkbnmaa.Pure
open Go.RowKit Go.Proofs.Ytkonklmgkkbnmaa.PA Go.Proofs.Ytkonklmgkkbnmaa.B Go.Proofs.YtkonklmgkkbnmaaW.PrintWords Go.Proofs.YtkonklmgkkbnmaaW.PrintLast Go.Proofs.YtkonklmgkkbnmaaW.PrintMore
set_option linter.unusedVariables false
set_option linter.unusedSimpArgs false
theorem bt_ext (s : ByteArray) {a b j : Nat} (hb : b ≤ s.size) (hj : a + j < b) : bt (s.extract a b) (j : Int) = bt s ((a + j : Nat) : Int) := by
  unfold bt
  have h1 : (j : Int).toNat < (s.extract a b).size := by rw [ByteArray.size_extract]; simp; omega
  have h2 : ((a + j : Nat) : Int).toNat < s.size := by simp; omega
  rw [dif_pos h1, dif_pos h2]
  congr 2
  have e : ((a + j : Nat) : Int).toNat = a + j := by omega
  simp only [ByteArray.getElem_extract]
  congr 1
theorem size_ext (s : ByteArray) {a b : Nat} (hb : b ≤ s.size) : (s.extract a b).size = b - a := by rw [ByteArray.size_extract]; omega
/-- The statement's look at what stands between. -/
theorem idle_ev (s : ByteArray) (hs : s.size ≤ 1000000) (a0 b : Nat) (hb : b ≤ s.size) (last : Bool) (hlast : last = true ∨ (b < s.size ∧ blankB (bt s (b : Int)) = false)) :
    ∀ (m n a : Nat), b - a ≤ m → a0 ≤ a → Gap s n a b → Ev (fun k => cubitlaw09_idle.l0 k (s.extract a0 b) last ((a - a0 : Nat) : Int)) true := by
  have hsz := size_ext s (a := a0) hb
  intro m
  induction m with
  | zero =>
    intro n a h0 ha hg
    have := hg.le
    refine Ev.step (f := fun _ => some true) (fun k => ?_) (Ev.now _)
    simp only [cubitlaw09_idle.l0]
    rw [if_neg (by omega)]
  | succ m ih =>
    intro n a h0 ha hg
    have hle := hg.le
    by_cases hab : a = b
    · refine Ev.step (f := fun _ => some true) (fun k => ?_) (Ev.now _)
      simp only [cubitlaw09_idle.l0]
      rw [if_neg (by omega)]
    · have hbt : ∀ j, a ≤ j → j < b → bt (s.extract a0 b) ((j - a0 : Nat) : Int) = bt s (j : Int) := by
        intro j h1 h2
        rw [bt_ext s hb (by omega)]
        congr 2
        omega
      have hw : ∀ j, a ≤ j → j < b → wrap64 (((j - a0 : Nat) : Int) + 1) = ((j + 1 - a0 : Nat) : Int) := by
        intro j h1 h2
        rw [w1l (n := 1000000) (by omega) (Nat.le_refl _)]
        congr 1
        omega
      cases n with
      | zero => exact absurd hg hab
      | succ n =>
        rcases hg with hg | ⟨hlt, hbl, hg⟩ | ⟨hlt, h35, hg⟩
        · exact absurd hg hab
        · refine Ev.step (f := fun k => cubitlaw09_idle.l0 k (s.extract a0 b) last ((a + 1 - a0 : Nat) : Int)) (fun k => ?_) (ih n (a + 1) (by omega) (by omega) hg)
          simp only [cubitlaw09_idle.l0]
          rw [if_pos (by omega), if_pos (by omega), hbt a (Nat.le_refl _) (by omega), hw a (Nat.le_refl _) (by omega)]
          unfold blankB at hbl
          simp only [Bool.or_eq_true, beq_iff_eq] at hbl
          rw [if_neg (by omega)]
          rcases hbl with h | h | h | h
          · rw [if_pos h]
          · rw [if_neg (by omega), if_pos h]
          · rw [if_neg (by omega), if_neg (by omega), if_pos h]
          · rw [if_neg (by omega), if_neg (by omega), if_neg (by omega), if_pos h]
        · -- a remark
          have hgt : a < runTo lineB s a := runTo_gt hlt (by rw [h35]; rfl)
          have hg2 := hg.le
          refine Ev.step (f := fun k => cubitlaw09_idle.l1 k (s.extract a0 b) last ((a - a0 : Nat) : Int)) (fun k => ?_) ?_
          · simp only [cubitlaw09_idle.l0]
            rw [if_pos (by omega), if_pos (by omega), hbt a (Nat.le_refl _) (by omega), if_pos h35]
          · have behind : ∀ j, j = runTo lineB s a → Ev (fun k => cubitlaw09_idle.j2 k (s.extract a0 b) last ((j - a0 : Nat) : Int)) true := by
              intro j hj
              by_cases hjb : j = b
              · have hl : last = true := by
                  rcases hlast with h | ⟨h1, h2⟩
                  · exact h
                  · have he := nxt_end lineB s (s.size - a) a (Nat.le_refl _) (by show runTo lineB s a < s.size; omega)
                    have he2 : lineB (bt s (b : Int)) = false := by rw [← hjb, hj]; exact he
                    unfold lineB at he2
                    simp only [bne_eq_false_iff_eq] at he2
                    rw [he2] at h2
                    cases h2
                refine Ev.step (f := fun _ => some true) (fun k => ?_) (Ev.now _)
                simp only [cubitlaw09_idle.j2]
                rw [if_pos (by omega), hl]
              · have he := nxt_end lineB s (s.size - a) a (Nat.le_refl _) (by show runTo lineB s a < s.size; omega)
                have he2 : bt s (j : Int) = 10 := by
                  rw [hj]
                  have he3 : (bt s (runTo lineB s a : Int) != 10) = false := he
                  simpa using he3
                -- the gap goes on with the line's end
                cases n with
                | zero => exact absurd (hj.trans hg) hjb
                | succ n =>
                  rw [← hj] at hg
                  rcases hg with hg | ⟨_, _, hg⟩ | ⟨_, h', _⟩
                  · exact absurd hg hjb
                  · refine Ev.step (f := fun k => cubitlaw09_idle.l0 k (s.extract a0 b) last ((j + 1 - a0 : Nat) : Int)) (fun k => ?_) (ih n (j + 1) (by omega) (by omega) hg)
                    simp only [cubitlaw09_idle.j2]
                    rw [if_neg (by omega), hw j (by omega) (by omega)]
                  · omega
            have key : ∀ (q j : Nat), b - j ≤ q → a ≤ j → j ≤ b → runTo lineB s j = runTo lineB s a → Ev (fun k => cubitlaw09_idle.l1 k (s.extract a0 b) last ((j - a0 : Nat) : Int)) true := by
              intro q
              induction q with
              | zero =>
                intro j h1 h2 h3 h4
                have hge := runTo_ge lineB s j
                refine Ev.step (fun k => ?_) (behind j (by omega))
                simp only [cubitlaw09_idle.l1]
                rw [if_neg (by omega)]
              | succ q ihq =>
                intro j h1 h2 h3 h4
                have hge := runTo_ge lineB s j
                by_cases hjb : j < b
                · by_cases h10 : bt s (j : Int) = 10
                  · rw [runTo_stop (fun _ => by rw [h10]; rfl)] at h4
                    refine Ev.step (fun k => ?_) (behind j h4)
                    simp only [cubitlaw09_idle.l1]
                    rw [if_pos (by omega), if_pos (by omega), hbt j h2 hjb, if_pos h10]
                  · refine Ev.step (f := fun k => cubitlaw09_idle.l1 k (s.extract a0 b) last ((j + 1 - a0 : Nat) : Int)) (fun k => ?_) (ihq (j + 1) (by omega) (by omega) (by omega) ?_)
                    · simp only [cubitlaw09_idle.l1]
                      rw [if_pos (by omega), if_pos (by omega), hbt j h2 hjb, if_neg h10, hw j h2 hjb]
                    · rw [← runTo_step (by omega) (by unfold lineB; simpa using h10), h4]
                · refine Ev.step (fun k => ?_) (behind j (by omega))
                  simp only [cubitlaw09_idle.l1]
                  rw [if_neg (by omega)]
            exact key _ a (Nat.le_refl _) (Nat.le_refl _) (by omega) rfl
theorem idle_f (s : ByteArray) (hs : s.size ≤ 1000000) {a b n : Nat} (hb : b ≤ s.size) {last : Bool} (hlast : last = true ∨ (b < s.size ∧ blankB (bt s (b : Int)) = false)) (hg : Gap s n a b) :
    Ev (fun k => cubitlaw09_idle.f k (s.extract a b) last) true := by
  have := idle_ev s hs a b hb last hlast _ n a (Nat.le_refl _) (Nat.le_refl _) hg
  rw [Nat.sub_self] at this
  exact this
theorem rd_app (pre r : List S31) (t : S31) : rd_T31 (pre ++ t :: r) (pre.length : Int) = t := by
  unfold rd_T31
  simp
theorem places_ev (s : ByteArray) (hs : s.size ≤ 65536) (L : List S31) (hL : L.length ≤ 65536) : ∀ (r pre : List S31) (e : Nat), L = pre ++ r → e ≤ s.size → Toks s r e → Ev (fun k => cubitlaw09_LexPlaces.l0 k s L (e : Int) (pre.length : Int)) true
  | [], pre, e, hL', he, ⟨n, hg⟩ => by
    have hlen : L.length = pre.length := by rw [hL']; simp
    refine Ev.step (f := fun k => (cubitlaw09_idle.f k (s.extract e s.size) true).bind fun t201 => some t201) (fun k => ?_) (Ev.bind (idle_f s (by omega) (Nat.le_refl _) (.inl rfl) hg) (Ev.now _))
    simp only [cubitlaw09_LexPlaces.l0]
    rw [if_neg (by omega), if_pos (by omega), if_pos (by omega)]
    rfl
  | t :: r, pre, e, hL', he, ⟨a, b, n, kd, hg, ha, ht, et, hr⟩ => by
    have hlen : L.length = pre.length + (r.length + 1) := by rw [hL']; simp
    have hrd : rd_T31 L (pre.length : Int) = ⟨kd, s.extract a b, (a : Int)⟩ := by rw [hL', rd_app, et]
    have hl := ht.lt ha
    have hle := hg.le
    have hsz := size_ext s (a := a) hl.2
    have w2 : wrap64 ((a : Int) + ((b - a : Nat) : Int)) = (b : Int) := by unfold wrap64; omega
    have w3 : wrap64 ((s.size : Int) - ((b - a : Nat) : Int)) = ((s.size - (b - a) : Nat) : Int) := by unfold wrap64; omega
    refine Ev.step (f := fun k => (cubitlaw09_idle.f k (s.extract e a) false).bind fun t199 => (if t199 = true then cubitlaw09_LexPlaces.l0 k s L (b : Int) ((pre.length + 1 : Nat) : Int) else some false)) (fun k => ?_) (Ev.bind (idle_f s (by omega) (by omega) (.inr ⟨ha, ht.not.1⟩) hg) ?_)
    · simp only [cubitlaw09_LexPlaces.l0]
      rw [hrd]
      simp only []
      rw [hsz, w2, w3, w1l (n := 65536) (by omega) (by omega)]
      rw [if_pos (by omega), if_pos (by omega), if_neg (by omega), if_neg (by omega), if_neg (by omega), if_pos (by omega), if_pos (by omega), if_pos (by omega)]
      simp only [Int.toNat_natCast]
      rw [if_pos trivial, if_pos (by omega), if_pos (by omega), if_pos (by omega)]
    · simp only [if_true]
      have := places_ev s hs L hL r (pre ++ [t]) b (by rw [hL']; simp) hl.2 hr
      rw [List.length_append, List.length_singleton] at this
      exact this
theorem LexPlaces : cubitlaw09_LexPlaces.Pure := by
  intro s hs
  refine Ev.rounds (r := true) ?_
  have hl := scanW_len s
  unfold cubitlaw09_LexPlaces.f
  refine Ev.bind awake_ev ?_
  simp only [if_true]
  refine Ev.bind (scan_prog s) ?_
  rcases scanW_cases s with ⟨r, hr, hT, hsz⟩ | ⟨j, hj, hr⟩ | hr
  · rw [hr] at hl ⊢
    simp only [if_true]
    exact places_ev s hsz r hl r [] 0 rfl (by omega) hT
  · rw [hr]
    refine Ev.congr (f := fun _ => some true) (fun k => ?_) (Ev.now _)
    simp only []
    rw [if_neg (by decide), if_pos (show (([] : List S31).length : Int) = 0 from rfl), if_pos (by omega), if_pos (by omega), if_neg (by decide)]
    rfl
  · rw [hr]
    refine Ev.congr (f := fun _ => some true) (fun k => ?_) (Ev.now _)
    simp only []
    rw [if_neg (by decide), if_pos (show (([] : List S31).length : Int) = 0 from rfl), if_pos (by omega), if_pos (by omega)]
    simp
end Go.Proofs.Ytkonklmgkkbnmaa.Pure
