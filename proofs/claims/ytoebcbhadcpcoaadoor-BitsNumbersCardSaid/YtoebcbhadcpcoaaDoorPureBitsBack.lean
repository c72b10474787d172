/- BitsBack: what is put is picked, what is picked put back; Close and Open, Gray and Ungray take each other back; Gray's neighbours differ in one bit; for all words, places and a place. -/
import Derived.Test.YtoebcbhadcpcoaaDoorBitG
import Derived.Test.YtoebcbhadcpcoaaDoorPAx10
namespace Go.Proofs.YtoebcbhadcpcoaaDoor.Pure
open Go.RowKit Go.Proofs.YtoebcbhadcpcoaaDoor.PA Go.Proofs.YtoebcbhadcpcoaaDoor.B Go.Proofs.YtoebcbhadcpcoaaDoorW.PrintWords Go.Proofs.YtoebcbhadcpcoaaDoorW.PrintLast Go.Proofs.YtoebcbhadcpcoaaDoorW.PrintMore
set_option linter.unusedVariables false
set_option linter.unusedSimpArgs false
theorem bs {α β : Type} (a : α) (f : α → Option β) : (some a).bind f = f a := by rw [Option.bind_some]
theorem awake_ev : Ev (fun k => cubitlaw03_awake.f k) true := Ev.of cubitlaw03_awake.mono (k := 40) (by decide +kernel)
theorem pick_bad {x : Nat} {l : List Int} (hl : l.length ≤ 9223372036854775806) (h : rightB 0 l = false) : Ev (fun k => bits_Pick.f k (x : Int) l) (0, 2) := by
  unfold bits_Pick.f
  refine Ev.bind (right_f l hl) ?_
  rw [h]
  exact Ev.now _
theorem pick_ok {x : Nat} (hx : x < 2 ^ 64) (ps : List Nat) (hps : ∀ p ∈ ps, p < 64) (hn : ps.Nodup) (hlen : ps.length ≤ 64) : Ev (fun k => bits_Pick.f k (x : Int) (ps.map (fun (n : Nat) => (n : Int)))) (((pickN x ps : Nat) : Int), 0) := by
  unfold bits_Pick.f
  refine Ev.bind (right_f _ (by rw [List.length_map]; omega)) ?_
  rw [right_of ps 0 (fun p hp => ⟨hps p hp, by simp⟩) hn]
  simp only [if_true]
  rw [List.length_map]
  exact pick_loop ps hps hlen hx _ 0 (Nat.le_refl _) (Nat.zero_le _)
theorem high_n {v n : Nat} (hv : v < 2 ^ 64) : (shr .u64 (v : Int) (n : Int) != 0) = decide (2 ^ n ≤ v) := by
  rw [shr_u hv, Nat.shiftRight_eq_div_pow]
  by_cases h : 2 ^ n ≤ v
  · rw [decide_eq_true h, bne_iff_ne]
    have := Nat.div_pos h (Nat.two_pow_pos n)
    omega
  · rw [decide_eq_false h, Nat.div_eq_of_lt (by omega)]
    rfl
theorem put_ok {x v : Nat} (hx : x < 2 ^ 64) (hv : v < 2 ^ 64) (ps : List Nat) (hps : ∀ p ∈ ps, p < 64) (hn : ps.Nodup) (hlen : ps.length ≤ 64) :
    (v < 2 ^ ps.length → Ev (fun k => bits_Put.f k (x : Int) (ps.map (fun (n : Nat) => (n : Int))) (v : Int)) (((putN v ps 0 x : Nat) : Int), 0)) ∧
    (2 ^ ps.length ≤ v → Ev (fun k => bits_Put.f k (x : Int) (ps.map (fun (n : Nat) => (n : Int))) (v : Int)) (0, 2)) := by
  have go : ∀ b : Bool, Ev (fun k => bits_Put.j0 k (x : Int) (ps.map (fun (n : Nat) => (n : Int))) (v : Int) b) (if b then (0, 2) else (((putN v ps 0 x : Nat) : Int), 0)) := by
    intro b
    cases b with
    | true =>
      refine Ev.step (f := fun _ => some (0, 2)) (fun k => ?_) (Ev.now _)
      simp only [bits_Put.j0, if_true]
    | false =>
      refine Ev.step (fun k => ?_) (put_loop hv ps hps hlen ps [] x rfl hx)
      simp only [bits_Put.j0, Bool.false_eq_true, if_false, List.length_map]
      rfl
  have main : Ev (fun k => bits_Put.f k (x : Int) (ps.map (fun (n : Nat) => (n : Int))) (v : Int)) (if decide (2 ^ ps.length ≤ v) then (0, 2) else (((putN v ps 0 x : Nat) : Int), 0)) := by
    unfold bits_Put.f
    refine Ev.bind (right_f _ (by rw [List.length_map]; omega)) ?_
    rw [right_of ps 0 (fun p hp => ⟨hps p hp, by simp⟩) hn]
    simp only [if_true]
    rw [List.length_map]
    by_cases h : ps.length < 64
    · rw [← high_n (n := ps.length) hv]
      refine Ev.congr (fun k => ?_) (go _)
      rw [if_pos (by omega)]
    · have h64 : ps.length = 64 := by omega
      have : ¬ 2 ^ ps.length ≤ v := by rw [h64]; omega
      rw [decide_eq_false this]
      refine Ev.congr (fun k => ?_) (go false)
      rw [if_neg (by omega)]
  constructor
  · intro h
    rw [decide_eq_false (by omega)] at main
    exact main
  · intro h
    rw [decide_eq_true h] at main
    exact main
theorem set_same (x p : Nat) : setB x p (x.testBit p) = x := by unfold setB; rw [if_pos rfl]
/-- What was picked is put back. -/
theorem put_pick (x : Nat) (ps : List Nat) : ∀ (r pre : List Nat), ps = pre ++ r → putN (pickN x ps) r pre.length x = x
  | [], pre, h => rfl
  | p :: r, pre, h => by
    have hg : ps.getD pre.length 0 = p := by rw [h]; simp
    have hl : ps.length = pre.length + (r.length + 1) := by rw [h]; simp
    have hb : (pickN x ps).testBit pre.length = x.testBit p := by
      unfold pickN
      rw [testBit_ofB, hg, decide_eq_true (by omega)]
      rfl
    have ih := put_pick x ps r (pre ++ [p]) (by rw [h]; simp)
    rw [List.length_append, List.length_singleton] at ih
    unfold putN
    rw [hb, set_same]
    exact ih
theorem put_far (v : Nat) : ∀ (r : List Nat) (k x i : Nat), i ∉ r → (putN v r k x).testBit i = x.testBit i
  | [], k, x, i, h => rfl
  | p :: r, k, x, i, h => by
    unfold putN
    rw [put_far v r (k + 1) _ i (fun hm => h (by simp [hm])), testBit_setB, if_neg (fun e => h (by simp [e]))]
/-- What was put is picked. -/
theorem put_at (v : Nat) : ∀ (r : List Nat) (k x j : Nat), r.Nodup → j < r.length → (putN v r k x).testBit (r.getD j 0) = v.testBit (k + j)
  | [], k, x, j, hn, h => by simp at h
  | p :: r, k, x, j, hn, h => by
    rw [List.nodup_cons] at hn
    unfold putN
    cases j with
    | zero =>
      rw [List.getD_cons_zero, put_far v r _ _ _ hn.1, testBit_setB, if_pos rfl, Nat.add_zero]
    | succ j =>
      rw [List.getD_cons_succ, put_at v r (k + 1) _ j hn.2 (by simpa using h)]
      congr 1
      omega
theorem pick_put {x v : Nat} (hv : v < 2 ^ 64) (ps : List Nat) (hn : ps.Nodup) (hlen : ps.length ≤ 64) (hvl : v < 2 ^ ps.length) : pickN (putN v ps 0 x) ps = v := by
  refine word_ext (ofB_lt _ _ hlen) hv (fun i hi => ?_)
  unfold pickN
  rw [testBit_ofB]
  by_cases h : i < ps.length
  · rw [decide_eq_true h, Bool.true_and, put_at v ps 0 x i hn h, Nat.zero_add]
  · rw [decide_eq_false h, Bool.false_and]
    exact (Nat.testBit_lt_two_pow (Nat.lt_of_lt_of_le hvl (Nat.pow_le_pow_right (by decide) (by omega)))).symm
theorem pick_small (x : Nat) (ps : List Nat) (hlen : ps.length ≤ 64) : pickN x ps < 2 ^ ps.length := by
  rcases Nat.lt_or_ge (pickN x ps) (2 ^ ps.length) with h | h
  · exact h
  · exfalso
    obtain ⟨i, hi, hb⟩ := Nat.exists_ge_and_testBit_of_ge_two_pow h
    unfold pickN at hb
    rw [testBit_ofB, decide_eq_false (by omega)] at hb
    cases hb
theorem last_ev {x : Nat} (hx : x < 2 ^ 64) : Ev (fun k => cubitlaw03_BitsBack.j4 k (x : Int) false) true := by
  by_cases h : (x : Int) = 18446744073709551615
  · refine Ev.step (f := fun _ => some true) (fun k => ?_) (Ev.now _)
    simp only [cubitlaw03_BitsBack.j4, Bool.false_eq_true, if_false]
    rw [if_pos h]
  · refine Ev.step (f := fun _ => some true) (fun k => ?_) (Ev.now _)
    simp only [cubitlaw03_BitsBack.j4, Bool.false_eq_true, if_false]
    have hx1 : x + 1 < 2 ^ 64 := by omega
    have hw : IntKind.u64.wrap ((x : Int) + 1) = ((x + 1 : Nat) : Int) := by rw [show (x : Int) + 1 = ((x + 1 : Nat) : Int) by omega]; exact wrapn hx1
    rw [if_neg h, gray_n hx, hw, gray_n hx1]
    simp only [bs]
    rw [xor_u (tw_lt hx) (tw_lt hx1)]
    unfold bits_Count.f
    rw [count_n (Nat.xor_lt_two_pow (tw_lt hx) (tw_lt hx1)), gray_next hx1]
    rfl
theorem grays_ev {x : Nat} (hx : x < 2 ^ 64) (at_ : Int) : ∀ j : Nat, j = 2 → Ev (fun k => cubitlaw03_BitsBack.l0 k (x : Int) at_ (j : Int)) true := by
  intro j hj
  subst hj
  refine Ev.step (f := fun k => (bits_Gray.f (x : Int)).bind fun t233 => ((bits_Ungray.f k t233).bind fun t234 => (if t234 = (x : Int) then ((bits_Ungray.f k (x : Int)).bind fun t235 => ((bits_Gray.f t235).bind fun t236 => (cubitlaw03_BitsBack.j4 k (x : Int) (t236 != (x : Int))))) else (cubitlaw03_BitsBack.j4 k (x : Int) true)))) (fun k => ?_) ?_
  · simp only [cubitlaw03_BitsBack.l0]
    rw [if_neg (by decide)]
  · rw [gray_n hx]
    simp only [bs]
    refine Ev.bind (ungray_n (tw_lt hx)) ?_
    rw [ung_gray hx]
    simp only [if_true]
    refine Ev.bind (ungray_n hx) ?_
    rw [gray_n (ung_lt hx), gray_ung hx]
    simp only [bs, bne_self_eq_false]
    exact last_ev hx
/-- The second half of the statement. -/
theorem rest_ev {x : Nat} (hx : x < 2 ^ 64) (at_ : Int) : Ev (fun k => cubitlaw03_BitsBack.j1 k (x : Int) at_) true := by
  have opens : ∀ (n j : Nat), 2 - j ≤ n → j ≤ 2 → Ev (fun k => cubitlaw03_BitsBack.l0 k (x : Int) at_ (j : Int)) true := by
    intro n
    induction n with
    | zero => intro j h1 h2; exact grays_ev hx at_ j (by omega)
    | succ n ih =>
      intro j h1 h2
      by_cases hj : j < 2
      · obtain ⟨b, hb⟩ : ∃ b : Bool, (j : Int) = bb b := by
          have : j = 0 ∨ j = 1 := by omega
          rcases this with rfl | rfl
          · exact ⟨false, rfl⟩
          · exact ⟨true, rfl⟩
        have hw : wrap64 ((j : Int) + 1) = ((j + 1 : Nat) : Int) := w1n (n := 2) hj (by decide)
        have next := ih (j + 1) (by omega) (by omega)
        have bad : ∀ e y : Int, e ≠ 0 → (∀ k, bits_Open.f (k + 1) (x : Int) at_ (j : Int) = some (y, e)) → Ev (fun k => cubitlaw03_BitsBack.l0 k (x : Int) at_ (j : Int)) true := by
          intro e y he ho
          refine Ev.step (f := fun k => (bits_Open.f k (x : Int) at_ (j : Int)).bind fun bt228 => (if bt228.2 = 0 then ((bits_Close.f bt228.1 at_).bind fun bt230 => (if bt230.2.2 = 0 then (if bt230.1 = (x : Int) then (if bt230.2.1 = (j : Int) then (cubitlaw03_BitsBack.l0 k (x : Int) at_ (wrap64 ((j : Int) + 1))) else (some false)) else (some false)) else (some false))) else (cubitlaw03_BitsBack.l0 k (x : Int) at_ (wrap64 ((j : Int) + 1))))) (fun k => ?_) ?_
          · simp only [cubitlaw03_BitsBack.l0]
            rw [if_pos (by omega)]
          · refine Ev.bind (a := (y, e)) ⟨1, fun k hk => by obtain ⟨k, rfl⟩ : ∃ m, k = m + 1 := ⟨k - 1, by omega⟩; exact ho k⟩ ?_
            simp only [if_neg he, hw]
            exact next
        by_cases hr : at_ < 0 ∨ at_ > 63
        · refine bad 2 0 (by decide) (fun k => ?_)
          have hb01 : ¬ (j : Int) < 0 := by omega
          unfold bits_Open.f
          rcases hr with h | h
          · rw [if_pos h]; rfl
          · rw [if_neg (by omega), if_pos h]; rfl
        · obtain ⟨p, rfl⟩ : ∃ p : Nat, at_ = (p : Int) := ⟨at_.toNat, by omega⟩
          have hp : p < 64 := by omega
          cases h63 : x.testBit 63 with
          | true =>
            refine bad 1 0 (by decide) (fun k => ?_)
            rw [hb]
            exact open_top b hx hp h63 k
          | false =>
            obtain ⟨y, hy1, hy2, hy3⟩ := open_n b hx hp h63
            obtain ⟨u, hu1, hu2, hu3⟩ := close_n hy2 hp
            have hux : u = x := by
              refine word_ext hu2 hx (fun i hi => ?_)
              rw [hu3]
              by_cases h : i < p
              · rw [if_pos h, hy3 i hi, if_pos h]
              · rw [if_neg h]
                rcases Nat.lt_or_ge i 63 with h' | h'
                · rw [hy3 (i + 1) (by omega), if_neg (by omega), if_neg (by omega), Nat.add_sub_cancel]
                · have : i = 63 := by omega
                  subst this
                  rw [h63]
                  exact bit_ge hy2 (by decide)
            have hbp : y.testBit p = b := by rw [hy3 p hp, if_neg (by omega), if_pos rfl]
            refine Ev.step (f := fun k => (bits_Open.f k (x : Int) (p : Int) (j : Int)).bind fun bt228 => (if bt228.2 = 0 then ((bits_Close.f bt228.1 (p : Int)).bind fun bt230 => (if bt230.2.2 = 0 then (if bt230.1 = (x : Int) then (if bt230.2.1 = (j : Int) then (cubitlaw03_BitsBack.l0 k (x : Int) (p : Int) (wrap64 ((j : Int) + 1))) else (some false)) else (some false)) else (some false))) else (cubitlaw03_BitsBack.l0 k (x : Int) (p : Int) (wrap64 ((j : Int) + 1))))) (fun k => ?_) ?_
            · simp only [cubitlaw03_BitsBack.l0]
              rw [if_pos (by omega)]
            · refine Ev.bind (a := ((y : Int), 0)) ⟨1, fun k hk => by obtain ⟨k, rfl⟩ : ∃ m, k = m + 1 := ⟨k - 1, by omega⟩; rw [hb]; exact hy1 k⟩ ?_
              simp only [if_true]
              rw [hu1]
              simp only [bs, if_true, hux, hbp, hb.symm, hw]
              exact next
      · exact grays_ev hx at_ j (by omega)
  have two : Ev (fun k => cubitlaw03_BitsBack.j2 k (x : Int) at_) true := by
    refine Ev.step (fun k => ?_) (opens 2 0 (by decide) (by decide))
    simp only [cubitlaw03_BitsBack.j2]
    rfl
  by_cases hr : at_ < 0 ∨ at_ > 63
  · refine Ev.step (f := fun k => cubitlaw03_BitsBack.j2 k (x : Int) at_) (fun k => ?_) two
    simp only [cubitlaw03_BitsBack.j1]
    unfold bits_Close.f
    rcases hr with h | h
    · rw [if_pos h]; rfl
    · rw [if_neg (by omega), if_pos h]; rfl
  · obtain ⟨p, rfl⟩ : ∃ p : Nat, at_ = (p : Int) := ⟨at_.toNat, by omega⟩
    have hp : p < 64 := by omega
    obtain ⟨u, hu1, hu2, hu3⟩ := close_n hx hp
    have h63 : u.testBit 63 = false := by
      rw [hu3, if_neg (by omega)]
      exact bit_ge hx (by decide)
    obtain ⟨y, hy1, hy2, hy3⟩ := open_n (x.testBit p) hu2 hp h63
    have hyx : y = x := by
      refine word_ext hy2 hx (fun i hi => ?_)
      rw [hy3 i hi]
      by_cases h : i < p
      · rw [if_pos h, hu3, if_pos h]
      · rw [if_neg h]
        by_cases h2 : i = p
        · rw [if_pos h2, h2]
        · rw [if_neg h2, hu3, if_neg (by omega), show i - 1 + 1 = i by omega]
    have hbb : 0 ≤ bb (x.testBit p) ∧ bb (x.testBit p) ≤ 1 := by cases x.testBit p <;> decide
    refine Ev.step (f := fun k => (bits_Open.f k (u : Int) (p : Int) (bb (x.testBit p))).bind fun bt226 => (if bt226.2 = 0 then (if bt226.1 = (x : Int) then (if bb (x.testBit p) < 0 then (some false) else (if bb (x.testBit p) > 1 then (some false) else (cubitlaw03_BitsBack.j2 k (x : Int) (p : Int)))) else (some false)) else (some false))) (fun k => ?_) ?_
    · simp only [cubitlaw03_BitsBack.j1]
      rw [hu1]
      simp only [bs, if_true]
    · refine Ev.bind (a := ((y : Int), 0)) ⟨1, fun k hk => by obtain ⟨k, rfl⟩ : ∃ m, k = m + 1 := ⟨k - 1, by omega⟩; exact hy1 k⟩ ?_
      simp only [hyx, if_true, if_neg (show ¬ bb (x.testBit p) < 0 by omega), if_neg (show ¬ bb (x.testBit p) > 1 by omega)]
      exact two
theorem BitsBack : cubitlaw03_BitsBack.Pure := by
  intro a0 a1 l a3 h0 h1 hm hl hw h3
  refine Ev.rounds (r := true) ?_
  obtain ⟨x, hx, rfl⟩ := word h0
  obtain ⟨v, hv, rfl⟩ := word h1
  have hlen : l.length ≤ 9223372036854775806 := by omega
  unfold cubitlaw03_BitsBack.f
  refine Ev.bind awake_ev ?_
  simp only [if_true]
  cases hr : rightB 0 l with
  | false =>
    refine Ev.bind (pick_bad hlen hr) ?_
    simp only [show ¬ ((2 : Int) = 0) by decide, if_false]
    exact rest_ev hx a3
  | true =>
    obtain ⟨ps, rfl, hps, hn, hc⟩ := right_true l 0 hr
    have hps' : ∀ p ∈ ps, p < 64 := fun p hp => (hps p hp).1
    have hc' : ps.length ≤ 64 := by omega
    have hpl := ofB_lt (fun k => x.testBit (ps.getD k 0)) ps.length hc'
    refine Ev.bind (pick_ok hx ps hps' hn hc') ?_
    simp only [if_true]
    refine Ev.bind ((put_ok hx hpl ps hps' hn hc').1 (pick_small x ps hc')) ?_
    simp only [if_true]
    have e : ((((putN (pickN x ps) ps 0 x : Nat) : Int)) != (x : Int)) = false := by
      have e2 : putN (pickN x ps) ps 0 x = x := put_pick x ps ps [] rfl
      rw [e2]
      exact bne_self_eq_false _
    show Ev (fun k => cubitlaw03_BitsBack.j0 k (x : Int) (v : Int) (ps.map (fun (n : Nat) => (n : Int))) a3 ((((putN (pickN x ps) ps 0 x : Nat) : Int)) != (x : Int))) true
    rw [e]
    refine Ev.step (f := fun k => (bits_Put.f k (x : Int) (ps.map (fun (n : Nat) => (n : Int))) (v : Int)).bind fun bt219 => (if bt219.2 = 0 then ((bits_Pick.f k bt219.1 (ps.map (fun (n : Nat) => (n : Int)))).bind fun bt221 => (if bt221.2 = 0 then (if bt221.1 = (v : Int) then (cubitlaw03_BitsBack.j1 k (x : Int) a3) else (some false)) else (some false))) else (cubitlaw03_BitsBack.j1 k (x : Int) a3))) (fun k => ?_) ?_
    · simp only [cubitlaw03_BitsBack.j0, Bool.false_eq_true, if_false]
    · rcases Nat.lt_or_ge v (2 ^ ps.length) with hvl | hvl
      · refine Ev.bind ((put_ok hx hv ps hps' hn hc').1 hvl) ?_
        simp only [if_true]
        refine Ev.bind (pick_ok (putN_lt ps 0 x hps' hx) ps hps' hn hc') ?_
        simp only [if_true, pick_put hv ps hn hc' hvl]
        exact rest_ev hx a3
      · refine Ev.bind ((put_ok hx hv ps hps' hn hc').2 hvl) ?_
        simp only [show ¬ ((2 : Int) = 0) by decide, if_false]
        exact rest_ev hx a3
end Go.Proofs.YtoebcbhadcpcoaaDoor.Pure
