/- BitsPlaces: Pick and Put answer as the reference does, for all words and rows of places; the places stay. -/
import Derived.Test.YtoebcbhadcpcoaaDoorPureBitsBack
import Derived.Test.YtoebcbhadcpcoaaDoorPAx4
namespace Go.Proofs.YtoebcbhadcpcoaaDoor.Pure
open Go.RowKit Go.Proofs.YtoebcbhadcpcoaaDoor.PA Go.Proofs.YtoebcbhadcpcoaaDoor.B Go.Proofs.YtoebcbhadcpcoaaDoorW.PrintWords Go.Proofs.YtoebcbhadcpcoaaDoorW.PrintLast Go.Proofs.YtoebcbhadcpcoaaDoorW.PrintMore
set_option linter.unusedVariables false
set_option linter.unusedSimpArgs false
/-- The first n places are right, and apart. -/
def gd (l : List Int) (n : Nat) : Prop := ∀ i : Nat, i < n → (0 ≤ rd l (i : Int) ∧ rd l (i : Int) ≤ 63) ∧ ∀ j : Nat, j < i → rd l (j : Int) ≠ rd l (i : Int)
theorem rd_get {l : List Int} {i : Nat} (h : i < l.length) : rd l (i : Int) = l[i] := by
  unfold rd
  rw [Int.toNat_natCast, List.getD_eq_getElem?_getD, List.getElem?_eq_getElem h]
  rfl
theorem gd_right (l : List Int) (h : gd l l.length) : rightB 0 l = true := by
  have hl : l = (l.map Int.toNat).map (fun (n : Nat) => (n : Int)) := by
    rw [List.map_map]
    refine List.ext_getElem (by simp) (fun i h1 h2 => ?_)
    have := (h i h1).1.1
    rw [rd_get h1] at this
    rw [List.getElem_map]
    show _ = ((l[i].toNat : Nat) : Int)
    omega
  rw [hl]
  refine right_of _ 0 (fun p hp => ?_) ?_
  · obtain ⟨i, hi, rfl⟩ := List.mem_iff_getElem.mp hp
    rw [List.length_map] at hi
    have := (h i hi).1
    rw [rd_get hi] at this
    rw [List.getElem_map]
    exact ⟨by omega, by simp⟩
  · unfold List.Nodup
    rw [List.pairwise_iff_getElem]
    intro i j hi hj hij
    rw [List.length_map] at hi hj
    have h1 := (h i hi).1
    have h2 := h j hj
    have h3 := h2.2 i hij
    rw [rd_get hi] at h1 h3
    rw [rd_get hj] at h2 h3
    rw [List.getElem_map, List.getElem_map]
    intro e
    apply h3
    omega
theorem right_gd (l : List Int) (h : rightB 0 l = true) : gd l l.length := by
  obtain ⟨ps, rfl, hps, hn, hc⟩ := right_true l 0 h
  intro i hi
  rw [List.length_map] at hi
  refine ⟨?_, fun j hj => ?_⟩
  · rw [rd_map ps i hi]
    have := (hps _ (getD_mem hi)).1
    omega
  · rw [rd_map ps i hi, rd_map ps j (by omega)]
    intro e
    have e' : ps.getD j 0 = ps.getD i 0 := by omega
    rw [List.getD_eq_getElem?_getD, List.getD_eq_getElem?_getD, List.getElem?_eq_getElem hi, List.getElem?_eq_getElem (show j < ps.length by omega)] at e'
    unfold List.Nodup at hn
    rw [List.pairwise_iff_getElem] at hn
    exact hn j i (by omega) hi hj e'
theorem right_no {l : List Int} {i : Nat} (hi : i < l.length) (h : rd l (i : Int) < 0 ∨ rd l (i : Int) > 63 ∨ ∃ j : Nat, j < i ∧ rd l (j : Int) = rd l (i : Int)) : rightB 0 l = false := by
  cases hr : rightB 0 l with
  | false => rfl
  | true =>
    exfalso
    have := right_gd l hr i hi
    rcases h with h | h | ⟨j, hj, e⟩
    · omega
    · omega
    · exact this.2 j hj e
theorem places_loop (l : List Int) (hlen : l.length ≤ 64) : ∀ (n i : Nat), l.length - i ≤ n → i ≤ l.length → gd l i → Ev (fun k => cubitref03_Places.l0 k l (i : Int)) (rightB 0 l) := by
  have fin : ∀ i : Nat, i = l.length → gd l i → Ev (fun k => cubitref03_Places.l0 k l (i : Int)) (rightB 0 l) := by
    intro i hi hg
    subst hi
    rw [gd_right l hg]
    refine Ev.step (f := fun _ => some true) (fun k => ?_) (Ev.now _)
    simp only [cubitref03_Places.l0]
    rw [if_neg (by omega)]
  intro n
  induction n with
  | zero => intro i h1 h2 hg; exact fin i (by omega) hg
  | succ n ih =>
    intro i h1 h2 hg
    by_cases hi : i < l.length
    · have bad : ∀ b : Bool, b = true → rightB 0 l = false → Ev (fun k => cubitref03_Places.j1 k l (i : Int) b) (rightB 0 l) := by
        intro b hb hr
        rw [hr, hb]
        refine Ev.step (f := fun _ => some false) (fun k => ?_) (Ev.now _)
        simp only [cubitref03_Places.j1, if_true]
      by_cases hneg : rd l (i : Int) < 0
      · refine Ev.step (f := fun k => cubitref03_Places.j1 k l (i : Int) true) (fun k => ?_) (bad true rfl (right_no hi (.inl hneg)))
        simp only [cubitref03_Places.l0]
        rw [if_pos (by omega), if_pos (by omega), if_pos hneg]
      · refine Ev.step (f := fun k => cubitref03_Places.j1 k l (i : Int) (decide (rd l (i : Int) > 63))) (fun k => ?_) ?_
        · simp only [cubitref03_Places.l0]
          rw [if_pos (by omega), if_pos (by omega), if_neg hneg]
        · by_cases hbig : rd l (i : Int) > 63
          · exact bad _ (decide_eq_true hbig) (right_no hi (.inr (.inl hbig)))
          · rw [decide_eq_false hbig]
            have inner : ∀ (m j : Nat), i - j ≤ m → j ≤ i → (∀ t : Nat, t < j → rd l (t : Int) ≠ rd l (i : Int)) → Ev (fun k => cubitref03_Places.l1 k l (i : Int) (j : Int)) (rightB 0 l) := by
              have done : ∀ j : Nat, j = i → (∀ t : Nat, t < j → rd l (t : Int) ≠ rd l (i : Int)) → Ev (fun k => cubitref03_Places.l1 k l (i : Int) (j : Int)) (rightB 0 l) := by
                intro j hj ht
                subst hj
                refine Ev.step (fun k => ?_) (ih (j + 1) (by omega) (by omega) (fun a ha => ?_))
                · simp only [cubitref03_Places.l1]
                  rw [if_neg (by omega), w1n hi (by omega)]
                · by_cases haj : a < j
                  · exact hg a haj
                  · obtain rfl : a = j := by omega
                    exact ⟨⟨by omega, by omega⟩, ht⟩
              intro m
              induction m with
              | zero => intro j h3 h4 ht; exact done j (by omega) ht
              | succ m ihm =>
                intro j h3 h4 ht
                by_cases hj : j < i
                · by_cases he : rd l (j : Int) = rd l (i : Int)
                  · rw [right_no hi (.inr (.inr ⟨j, hj, he⟩))]
                    refine Ev.step (f := fun _ => some false) (fun k => ?_) (Ev.now _)
                    simp only [cubitref03_Places.l1]
                    rw [if_pos (by omega), if_pos (by omega), if_pos (by omega), if_pos (by omega), if_pos (by omega), if_pos he]
                  · refine Ev.step (fun k => ?_) (ihm (j + 1) (by omega) (by omega) (fun t h5 => ?_))
                    · simp only [cubitref03_Places.l1]
                      rw [if_pos (by omega), if_pos (by omega), if_pos (by omega), if_pos (by omega), if_pos (by omega), if_neg he, w1n hj (by omega)]
                    · by_cases h6 : t < j
                      · exact ht t h6
                      · obtain rfl : t = j := by omega
                        exact he
                · exact done j (by omega) ht
            refine Ev.step (fun k => ?_) (inner i 0 (by omega) (by omega) (fun t ht => by omega))
            simp only [cubitref03_Places.j1, Bool.false_eq_true, if_false]
            rfl
    · exact fin i (by omega) hg
theorem places_ev (l : List Int) : Ev (fun k => cubitref03_Places.f k l) (rightB 0 l) := by
  unfold cubitref03_Places.f
  by_cases h : (l.length : Int) > 64
  · have hr : rightB 0 l = false := by
      cases hr : rightB 0 l with
      | false => rfl
      | true =>
        obtain ⟨ps, rfl, hps, hn, hc⟩ := right_true l 0 hr
        rw [List.length_map] at h
        omega
    rw [hr]
    refine Ev.congr (fun k => ?_) (Ev.now false)
    rw [if_pos h]
  · refine Ev.congr (fun k => ?_) (places_loop l (by omega) l.length 0 (by omega) (by omega) (fun i hi => by omega))
    rw [if_neg h]
    rfl
theorem refput_high {v x : Nat} (hx : x < 2 ^ 64) (hv : v < 2 ^ 64) (ps : List Nat) (hps : ∀ p ∈ ps, p < 64) (hlen : ps.length ≤ 64) : ∀ (n i : Nat), 64 - i ≤ n → i ≤ 64 → ps.length ≤ i → (∀ m, ps.length ≤ m → m < i → v.testBit m = false) →
    Ev (fun k => cubitref03_Put.l0 k (x : Int) (ps.map (fun (n : Nat) => (n : Int))) (v : Int) (i : Int)) (if decide (2 ^ ps.length ≤ v) then (0, 2) else (((putN v ps 0 x : Nat) : Int), 0)) := by
  have fin : ∀ i : Nat, i = 64 → (∀ m, ps.length ≤ m → m < i → v.testBit m = false) → Ev (fun k => cubitref03_Put.l0 k (x : Int) (ps.map (fun (n : Nat) => (n : Int))) (v : Int) (i : Int)) (if decide (2 ^ ps.length ≤ v) then (0, 2) else (((putN v ps 0 x : Nat) : Int), 0)) := by
    intro i hi hm
    have hs : ¬ 2 ^ ps.length ≤ v := by
      intro hle
      obtain ⟨m, h1, h2⟩ := Nat.exists_ge_and_testBit_of_ge_two_pow hle
      rcases Nat.lt_or_ge m 64 with h3 | h3
      · rw [hm m h1 (by omega)] at h2
        cases h2
      · rw [bit_ge hv h3] at h2
        cases h2
    rw [decide_eq_false hs]
    refine Ev.step (fun k => ?_) (refput_loop hv ps hps hlen ps [] x rfl hx)
    simp only [cubitref03_Put.l0]
    rw [if_neg (by omega)]
    rfl
  intro n
  induction n with
  | zero => intro i h1 h2 h3 hm; exact fin i (by omega) hm
  | succ n ih =>
    intro i h1 h2 h3 hm
    by_cases hi : i < 64
    · cases hb : v.testBit i with
      | true =>
        have hle : 2 ^ ps.length ≤ v := Nat.le_trans (Nat.pow_le_pow_right (by decide) h3) (Nat.ge_two_pow_of_testBit hb)
        rw [decide_eq_true hle]
        refine Ev.step (f := fun _ => some (0, 2)) (fun k => ?_) (Ev.now _)
        simp only [cubitref03_Put.l0]
        rw [if_pos (by omega), bit_n hv (by omega), hb]
        rw [Option.bind_some, if_pos (show bb true = 1 from rfl)]
      | false =>
        refine Ev.step (fun k => ?_) (ih (i + 1) (by omega) (by omega) (by omega) (fun m h4 h5 => ?_))
        · simp only [cubitref03_Put.l0]
          rw [if_pos (by omega), bit_n hv (by omega), hb]
          rw [Option.bind_some, if_neg (by decide), w1n hi (by decide)]
        · by_cases h6 : m < i
          · exact hm m h4 h6
          · obtain rfl : m = i := by omega
            exact hb
    · exact fin i (by omega) hm
theorem same_loop (l : List Int) (hl : l.length ≤ 9223372036854775806) : ∀ (n i : Nat), l.length - i ≤ n → i ≤ l.length → Ev (fun k => cubitlaw03_BitsPlaces.l0 k l l (i : Int)) true := by
  intro n
  induction n with
  | zero =>
    intro i h1 h2
    refine Ev.step (f := fun _ => some true) (fun k => ?_) (Ev.now _)
    simp only [cubitlaw03_BitsPlaces.l0]
    rw [if_neg (by omega)]
  | succ n ih =>
    intro i h1 h2
    by_cases hi : i < l.length
    · refine Ev.step (fun k => ?_) (ih (i + 1) (by omega) (by omega))
      simp only [cubitlaw03_BitsPlaces.l0]
      rw [if_pos (by omega), if_pos (by omega), if_pos (by omega), if_pos trivial, w1n hi hl]
    · refine Ev.step (f := fun _ => some true) (fun k => ?_) (Ev.now _)
      simp only [cubitlaw03_BitsPlaces.l0]
      rw [if_neg (by omega)]
/-- What Pick and Put answer, the program's and the reference's. -/
theorem both {x v : Nat} (hx : x < 2 ^ 64) (hv : v < 2 ^ 64) (l : List Int) (hl : l.length ≤ 9223372036854775806) :
    ∃ a b : Int × Int, Ev (fun k => cubitref03_Pick.f k (x : Int) l) a ∧ Ev (fun k => bits_Pick.f k (x : Int) l) a ∧ Ev (fun k => cubitref03_Put.f k (x : Int) l (v : Int)) b ∧ Ev (fun k => bits_Put.f k (x : Int) l (v : Int)) b := by
  cases hr : rightB 0 l with
  | false =>
    refine ⟨(0, 2), (0, 2), ?_, pick_bad hl hr, ?_, ?_⟩
    · unfold cubitref03_Pick.f
      refine Ev.bind (places_ev l) ?_
      rw [hr]
      exact Ev.now _
    · unfold cubitref03_Put.f
      refine Ev.bind (places_ev l) ?_
      rw [hr]
      exact Ev.now _
    · unfold bits_Put.f
      refine Ev.bind (right_f l hl) ?_
      rw [hr]
      simp only [Bool.false_eq_true, if_false]
      refine Ev.step (f := fun _ => some (0, 2)) (fun k => ?_) (Ev.now _)
      simp only [bits_Put.j0, if_true]
  | true =>
    have hpl := places_ev l
    rw [hr] at hpl
    obtain ⟨ps, rfl, hps, hn, hc⟩ := right_true l 0 hr
    have hps' : ∀ p ∈ ps, p < 64 := fun p hp => (hps p hp).1
    have hc' : ps.length ≤ 64 := by omega
    refine ⟨_, if decide (2 ^ ps.length ≤ v) then (0, 2) else (((putN v ps 0 x : Nat) : Int), 0), ?_, pick_ok hx ps hps' hn hc', ?_, ?_⟩
    · unfold cubitref03_Pick.f
      refine Ev.bind hpl ?_
      simp only [if_true]
      exact refpick_loop ps hps' hc' hx _ 0 (Nat.le_refl _) (Nat.zero_le _)
    · unfold cubitref03_Put.f
      refine Ev.bind hpl ?_
      simp only [if_true]
      rw [List.length_map]
      exact refput_high hx hv ps hps' hc' _ ps.length (Nat.le_refl _) hc' (Nat.le_refl _) (fun m h1 h2 => by omega)
    · rcases Nat.lt_or_ge v (2 ^ ps.length) with h | h
      · rw [decide_eq_false (by omega)]
        exact (put_ok hx hv ps hps' hn hc').1 h
      · rw [decide_eq_true h]
        exact (put_ok hx hv ps hps' hn hc').2 h
theorem BitsPlaces : cubitlaw03_BitsPlaces.Pure := by
  intro a0 a1 l h0 h1 hm hl hw
  refine Ev.rounds (r := true) ?_
  obtain ⟨x, hx, rfl⟩ := word h0
  obtain ⟨v, hv, rfl⟩ := word h1
  have hlen : l.length ≤ 9223372036854775806 := by omega
  obtain ⟨a, b, e1, e2, e3, e4⟩ := both hx hv l hlen
  unfold cubitlaw03_BitsPlaces.f
  refine Ev.bind awake_ev ?_
  simp only [if_true]
  have hrow : ([] ++ l) ++ [77, 78] = l ++ [(77 : Int), 78] := by rw [List.nil_append]
  have hlen2 : (l ++ [(77 : Int), 78]).length = l.length + 2 := by rw [List.length_append]; rfl
  have htake : (l ++ [(77 : Int), 78]).take ((l.length : Int)).toNat = l := by rw [Int.toNat_natCast, List.take_left']; rfl
  have h77 : rd (l ++ [(77 : Int), 78]) (l.length : Int) = 77 := rd_app' l [78] 77
  have h78 : rd (l ++ [(77 : Int), 78]) (((l.length + 1 : Nat)) : Int) = 78 := by
    have := rd_app' (l ++ [77]) [] 78
    rw [List.length_append, List.append_assoc] at this
    exact this
  have hnil : ([] : List Int).length + l.length < 17592186044416 := by
    have : ([] : List Int).length = 0 := rfl
    omega
  have hnil2 : ([] ++ l : List Int).length + ([77, 78] : List Int).length < 17592186044416 := by
    have : ([77, 78] : List Int).length = 2 := rfl
    rw [List.nil_append]
    omega
  simp only [bs, if_pos hnil, if_pos hnil2, hrow, hlen2, htake, if_pos (show 0 ≤ (l.length : Int) by omega), if_pos (show (l.length : Int) ≤ ((l.length + 2 : Nat) : Int) by omega)]
  refine Ev.bind e1 ?_
  refine Ev.bind e2 ?_
  refine Ev.bind e3 ?_
  refine Ev.bind e4 ?_
  rw [show wrap64 ((l.length : Int) + 1) = ((l.length + 1 : Nat) : Int) from w1n (n := l.length + 1) (by omega) (by omega)]
  simp only [if_true, h77, h78, if_pos (show (l.length : Int) < ((l.length + 2 : Nat) : Int) by omega), if_pos (show 0 ≤ ((l.length + 1 : Nat) : Int) by omega), if_pos (show ((l.length + 1 : Nat) : Int) < ((l.length + 2 : Nat) : Int) by omega)]
  exact same_loop l hlen l.length 0 (by omega) (by omega)
end Go.Proofs.YtoebcbhadcpcoaaDoor.Pure
