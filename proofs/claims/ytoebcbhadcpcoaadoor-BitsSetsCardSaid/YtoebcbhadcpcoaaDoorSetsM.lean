/- BitsSets: the law's walk. -/
import Derived.Test.YtoebcbhadcpcoaaDoorSetsB
import Derived.Test.YtoebcbhadcpcoaaDoorSetsT
import Derived.Test.YtoebcbhadcpcoaaDoorPAx3
namespace Go.Proofs.YtoebcbhadcpcoaaDoor.PA
open Go.RowKit Go.Shelf Go.Proofs.YtoebcbhadcpcoaaDoorW.PrintWords Go.Proofs.YtoebcbhadcpcoaaDoorW.PrintLast Go.Proofs.YtoebcbhadcpcoaaDoorW.PrintMore
attribute [local go_sem] Oper.semAt_some
attribute [local go_sem] max2_int min2_int max_two min_two max_three min_three max_four min_four   -- for this text's walks alone
set_option linter.unusedVariables false
set_option linter.unusedSimpArgs false

set_option maxRecDepth 100000 in
set_option maxHeartbeats 2000000 in
theorem bits_Subsets.calls (m : Int) (w : World) :
    Calls Tryd.prog 21 #[.int .u64 m] w fun e w' => e = .returned (.func (.func 43) #[] #[.pointer (some ⟨w.heap.size, 0, none⟩)]) ∧ w'.cell? ⟨w.heap.size, 0, none⟩ = some (.int .u64 m) ∧ w.heap.size < w'.heap.size ∧ Below w.heap.size w w' := by
  go_enter Tryd.func21, Tryd.ntmps21
  go_wp2
  go_ret
  exact ⟨rfl, (Boxed.new w 22 _).cell, by simp, (Below.refl _ w).alloc (Nat.le_refl _) _⟩

attribute [local go_sem] eql_nilFunc
set_option maxHeartbeats 1000000 in
set_option maxRecDepth 100000 in
theorem cubitlaw03_BitsSets.main (k : Nat) (a0 a1 a2 a3 st : Int) (N : Nat) (f : Nat → Int) (hs : SetSeq a0 N f) (want : List Int) (wI : World)
    (hawake : cubitlaw03_awake.f k = some true) (hst : (if 300 < (if a1 < 1 then 1 else a1) then 300 else (if a1 < 1 then 1 else a1)) = st) (h1 : 1 ≤ st) (h2 : st ≤ 300) (hsub : cubitref03_Subsets.f k a0 (st + 1) = some want)
    (r : Bool) (h : setsTail.f k a0 a1 a2 a3 = some r) (htrue : r = true)
    (hwant : Aside0 (want = (List.range (min (st.toNat + 1) N)).map f)) :
    Calls Tryd.prog 6 #[.int .u64 a0, .int .i64 a1, .int .i64 a2, .int .i64 a3] wI fun e w' => e = .returned (.bool true) ∧ Below wI.heap.size wI w' := by
  have HB := Aside0.mk (Below.refl wI.heap.size wI)
  have HTRUE := Aside0.mk htrue
  have HTAIL := Aside0.mk h
  clear htrue h
  refine (callsIn_wide (n := 3)).1 (callsIn_of_wp_marks Tryd.func6 rfl trivial (wpIn_wide.2 ?_) rfl)
  simp only [Tryd.ntmps6, List.size_toArray, List.length_cons, List.length_nil, Nat.reduceAdd, Nat.reduceSub, Array.replicate_succ, Array.replicate_zero, List.push_toArray, List.append_toArray, List.nil_append, List.cons_append]
  go_upto_region 4 with (go_at_call 9; refine (cubitlaw03_awake.calls k true _ hawake).mono ?_; rintro e w1 ⟨rfl, hb⟩; have hb5 := bxBelow ((Boxed.new wI 3 (.int .i64 a1)).alloc _) hb (by simp only [World.size_alloc]; omega); have hb8 := bxBelow (Boxed.new _ 4 (.bool false)) hb (by simp only [World.size_alloc]; omega); rw [World.size_alloc] at hb8; have hB1 := below_step (((Below.refl wI.heap.size wI).alloc (Nat.le_refl _) _).alloc (by simp) _) hb; have hc5 := hb5.cell; have hf5 := hb5.frozen; have hsz1 : wI.heap.size + 2 ≤ w1.heap.size := by have := hb.size; simp at this; omega)
  clear hst
  obtain ⟨w2, hw2⟩ : ∃ w2, w1.setCell ⟨wI.heap.size, 0, none⟩ (.int .i64 st) = w2 := ⟨_, rfl⟩
  have hb5a : Boxed w2 wI.heap.size 3 (.int .i64 st) := by rw [← hw2]; exact hb5.set _
  have hb8a : Boxed w2 (wI.heap.size + 1) 4 (.bool false) := by rw [← hw2]; exact bxMask hb8 _ _ (by simp)
  have hB2 : Below wI.heap.size wI w2 := by rw [← hw2]; exact hB1.setCell (p := ⟨wI.heap.size, 0, none⟩) (Nat.le_refl _) _
  have hsz2 : wI.heap.size + 2 ≤ w2.heap.size := by rw [← hw2]; simpa using hsz1
  rw [hw2]
  generalize (if a1 < 1 then (1 : Int) else a1) = mx
  clear hw2 hB1 hb5 hb8 hc5 hf5 hsz1 hb HB
  clear w1
  have hc5 := hb5a.cell
  have hw0 : 0 < want.length := by rw [hwant.out]; simp; have := hs.pos; omega
  go_upto_region 5 with (go_at_call 20; (with_reducible refine (cubitref03_Subsets.calls k a0 (st + 1) want _ hsub).mono ?_); rintro e w3 ⟨v30, rfl, hR, hb⟩; have hb5 := bxBelow hb5a hb (by omega); have hb8 := bxBelow hb8a hb (by omega); have hB3 := below_step hB2 hb; have hsz3 : wI.heap.size + 2 ≤ w3.heap.size := (by have := hb.size; omega); obtain ⟨ad, c30, rfl⟩ := Kd.R_slice1 hR hw0)
  have hel3 : ∀ i : Nat, i < want.length → w3.cell? (ad.add i) = some (.int .u64 (rd want i)) := fun i hi => by
    obtain ⟨ad', e', hx⟩ := Kd.at_int (Kd.R_reads' hR).2.2 (i : Int) (by omega) (by exact_mod_cast hi)
    cases e'
    exact hx
  have hab3 : ad.block < w3.heap.size := (blk (ad) 0) ▸ World.block_lt_of_cell? w3 _ (hel3 0 hw0)
  obtain ⟨w4, hw4⟩ : ∃ w4, w3.alloc (.cells #[.slice (some ad) want.length c30] 35) = w4 := ⟨_, rfl⟩
  have hb5c : Boxed w4 wI.heap.size 3 (.int .i64 st) := by rw [← hw4]; exact hb5.alloc _
  have hb8c : Boxed w4 (wI.heap.size + 1) 4 (.bool false) := by rw [← hw4]; exact hb8.alloc _
  have hb9c : Boxed w4 w3.heap.size 35 (.slice (some ad) want.length c30) := by rw [← hw4]; exact Boxed.new w3 35 _
  have hB4 : Below wI.heap.size wI w4 := by rw [← hw4]; exact hB3.alloc (by omega) _
  have hsz4 : w3.heap.size < w4.heap.size := by rw [← hw4]; simp
  have hel4 : ∀ i : Nat, i < want.length → w4.cell? (ad.add i) = some (.int .u64 (rd want i)) := fun i hi => by
    rw [← hw4]; exact (((Below.refl w3.heap.size w3).alloc (Nat.le_refl _) _).cell (p := ad.add i) (by rw [blk]; exact hab3)).trans (hel3 i hi)
  rw [hw4]
  clear hw4 hel3 hR hb hb5 hb8 hB3 hb5a hb8a hB2 hsz2 hc5 hsub hawake
  obtain ⟨B9, hB9⟩ : ∃ B9, w3.heap.size = B9 := ⟨_, rfl⟩
  rw [hB9] at hsz3 hab3 hsz4 hb9c ⊢
  clear hB9
  clear w3 w2
  have hHB := Aside0.mk hB4
  have hEl := Aside0.mk hel4
  clear hel4
  go_wp2_with (go_at_call 21; (with_reducible refine (bits_Subsets.calls a0 _).mono ?_); rintro e w5 ⟨rfl, hcm, hlt5, hb5⟩)
  have hb5d := bxBelow hb5c hb5 (by omega)
  have hb8d := bxBelow hb8c hb5 (by omega)
  have hb9d := bxBelow hb9c hb5 (by omega)
  have hB5 : Below wI.heap.size wI w5 := below_step hB4 hb5
  have hel5 : Aside0 (∀ i : Nat, i < want.length → w5.cell? (ad.add i) = some (.int .u64 (rd want i)) ∧ (ad.add i).block < w5.heap.size) := ⟨fun i hi =>
    ⟨(hb5.cell (p := ad.add i) (by rw [blk]; omega)).trans (hEl.out i hi), by rw [blk]; omega⟩⟩
  clear hb5c hb8c hb9c hb5 hEl hHB hB4
  refine wp_loop (fun a W => ∃ (p : Nat) (u12 u35 u36 u37 u38 u39 u58 u59 u60 u61 u62 u63 : Value) (ds : List Deferred), a = { tmps := #[.int .u64 a0, .int .i64 a1, .int .i64 a2, .int .i64 a3, undef, .pointer (some ⟨wI.heap.size, 0, none⟩), undef, undef, .pointer (some ⟨wI.heap.size + 1, 0, none⟩), .pointer (some ⟨B9, 0, none⟩), .func (.func 43) #[] #[.pointer (some ⟨w4.heap.size, 0, none⟩)], .int .i64 (p : Nat), u12, undef, undef, undef, undef, undef, undef, undef, undef, undef, .bool true, .bool false, .int .i64 a1, .int .i64 mx, .int .i64 st, .int .u64 a0, .int .i64 st, .int .i64 (st + 1), .slice (some ad) want.length c30, .int .u64 a0, .func (.func 43) #[] #[.pointer (some ⟨w4.heap.size, 0, none⟩)], .func (.func 43) #[] #[.pointer (some ⟨w4.heap.size, 0, none⟩)], .bool false, u35, u36, u37, u38, u39, undef, undef, undef, undef, undef, undef, undef, undef, undef, undef, undef, undef, undef, undef, undef, undef, undef, undef, u58, u59, u60, u61, u62, u63, undef, undef, undef, undef, undef, undef, undef, undef, undef, undef, undef, undef, undef, undef, undef, undef, undef, undef, undef, undef, undef, undef, undef, undef, undef, undef, undef, undef, undef, undef, undef, undef, undef, undef, undef, undef, undef, undef, undef, undef, undef, undef, undef, undef, undef, undef, undef, undef, undef, undef, undef, undef, undef, undef, undef, undef, undef, undef, undef, undef, undef, undef, undef, undef, undef, undef, undef, undef], defers := ds } ∧ p ≤ 2 ∧ Below w5.heap.size w5 W ∧ Marks w5.heap.size W.heap.size ds W) roundsLeft ?start ?round
  case start => exact ⟨0, _, _, _, _, _, _, _, _, _, _, _, _, [], rfl, by omega, Below.refl _ _, Marks.nil _ _ _⟩
  case round =>
    rintro _ W ⟨p, u12, u35, u36, u37, u38, u39, u58, u59, u60, u61, u62, u63, ds, rfl, hp, hBW, hM⟩
    by_cases hp2 : (p : Int) < 2
    · have hd2 : decide ((p : Int) < 2) = true := decide_eq_true hp2
      go_wp2
      obtain ⟨W1, hW1⟩ : ∃ W1, W.alloc (.cells #[.int .i64 0] 3) = W1 := ⟨_, rfl⟩
      have hbI : Boxed W1 W.heap.size 3 (.int .i64 0) := by rw [← hW1]; exact Boxed.new W 3 _
      have hBW1 : Below w5.heap.size w5 W1 := by rw [← hW1]; exact hBW.alloc hBW.size _
      have hM1 : Marks w5.heap.size W.heap.size ds W1 := by rw [← hW1]; exact hM.below ((Below.refl W.heap.size W).alloc (Nat.le_refl _) _) (Nat.le_refl _)
      have hszW1 : W1.heap.size = W.heap.size + 1 := by rw [← hW1]; simp
      have hsz5 : w5.heap.size ≤ W.heap.size := hBW.size
      rw [hW1]
      clear hW1 hM hBW
      obtain ⟨Bi, hBi⟩ : ∃ Bi, W.heap.size = Bi := ⟨_, rfl⟩
      rw [hBi] at hbI hM1 hszW1 hsz5 ⊢
      clear hBi
      have hNL : Aside0 (want.length = min (st.toNat + 1) N) := ⟨by rw [hwant.out]; simp⟩
      refine (wpIn_wide (n := 3)).1 ?_
      refine wpIn_rangeFunc_ownF rfl (by decide) (gf := 43) (lb := #[.pointer (some ⟨w4.heap.size, 0, none⟩)]) rfl trivial (enters_of Tryd.func43 (by kernel_rfl) rfl)
        (subsets_stops Fence.wide 2 trivial rfl (by decide) w4.heap.size w5.heap.size a0 N f hs W1 hlt5 hBW1.size ((hBW1.cell (p := ⟨w4.heap.size, 0, none⟩) hlt5).trans hcm)) belowK_t (belowK_b (by omega)) (Below.refl _ _) (fun _ => rfl)
        (fun pre W2 => ((Boxed W2 Bi 3 (.int .i64 (pre.length : Nat)) ∧ Below w5.heap.size w5 W2) ∧ Marks w5.heap.size Bi ds W2) ∧ (pre = (List.range pre.length).map f ∧ pre.length < st.toNat))
        (fun c pre W2 => (((c = .exit 2 ∧ Boxed W2 Bi 3 (.int .i64 st)) ∧ Below w5.heap.size w5 W2) ∧ Marks w5.heap.size Bi ds W2 ∧ pre.length = st.toNat) ∨ (c = .ret ∧ ¬ pre = (List.range pre.length).map f))
        ?hI ?hIx ?h0 ?a1 ?assign ?body ?done ?stop
      case assign =>
        intro l x W K hK
        gi_wp2
        exact hK
      case hI =>
        rintro pre W2 W3 row ⟨⟨⟨g1, g2⟩, g3⟩, g4⟩ hg hr
        exact ⟨⟨⟨g1.kept hg (fun e => by have := (hr _ e.symm).1; omega), g2.grown hg g2.size (fun k e => by have := (hr k e).1; omega)⟩,
          g3.step (fun D hD hh => hg.block D (Array.getElem?_eq_some_iff.1 hh).1 (fun e => by have := (hr D e.symm).1; omega))⟩, g4⟩
      case hIx =>
        rintro c pre W2 W3 row (⟨⟨⟨hc, g1⟩, g2⟩, g3, g4⟩ | h) hg hr
        · exact .inl ⟨⟨⟨hc, g1.kept hg (fun e => by have := (hr _ e.symm).1; omega)⟩, g2.grown hg g2.size (fun k e => by have := (hr k e).1; omega)⟩,
            g3.step (fun D hD hh => hg.block D (Array.getElem?_eq_some_iff.1 hh).1 (fun e => by have := (hr D e.symm).1; omega)), g4⟩
        · exact .inr h
      case h0 =>
        exact ⟨⟨⟨hbI, hBW1⟩, hM1⟩, rfl, by simp only [List.length_nil]; omega⟩
      case body =>
        rintro l pre x W2 ⟨⟨⟨g1, g2⟩, g3⟩, g4, g5⟩ hlen
        have hN : pre.length < want.length := by rw [hNL.out]; omega
        obtain ⟨hx, hbx⟩ := hel5.out pre.length hN
        have hx2 := (g2.cell (p := ad.add pre.length) hbx).trans hx
        have hc5 := (bxBelow hb5d g2 (by omega)).cell
        have hb8 := bxBelow hb8d g2 (by omega)
        have hc8 := hb8.cell
        have hf8 := hb8.frozen
        have hc9 := (bxBelow hb9d g2 (by omega)).cell
        have hcI := g1.cell
        have hfI := g1.frozen
        obtain ⟨i, hi⟩ : ∃ i : Int, ((pre.length : Nat) : Int) = i := ⟨_, rfl⟩
        have hi' : i.toNat = pre.length := by omega
        rw [hi] at hcI hx2
        rw [← hi'] at hx2
        have hi0 : (0 ≤ i) = True := eq_true (by omega)
        have hi1 : (i < (want.length : Int)) = True := eq_true (by omega)
        have hge : decide (i ≥ (want.length : Int)) = false := decide_eq_false (by omega)
        have hge' : decide ((want.length : Int) ≤ i) = false := decide_eq_false (by omega)
        have hwr : wrap64 (i + 1) = i + 1 := by unfold wrap64; omega
        have HI := Aside0.mk hi
        have HRD := Aside0.mk (show rd want i = f pre.length by
          rw [hwant.out, ← hi]
          simp only [rd, rdOf]
          rw [hwant.out] at hN
          simp at hN
          simp [hN])
        clear hbx hx hi hi'
        have G1 := Aside0.mk g1
        have G2 := Aside0.mk g2
        have G3 := Aside0.mk g3
        have G4 := Aside0.mk g4
        clear g1 g2 g3 g4 hb8
        by_cases hxx : x = rd want i
        · have hb0 : (x != rd want i) = false := bne_eq_false_iff_eq.mpr hxx
          by_cases hla : i + 1 = st
          · have hb1 : (i + 1 == st) = true := beq_iff_eq.mpr hla
            gi_wp2
            refine ⟨KeepsOthers.setCell _ _ _, .inl ⟨⟨⟨rfl, G1.out.set _⟩, G2.out.setCell (p := ⟨Bi, 0, none⟩) hsz5 _⟩, G3.out.step (fun D hD _ => Below.heap_setCell _ _ _ D (by simp only; omega)), ?_⟩⟩
            have := HI.out
            rw [List.length_append, show [x].length = 1 from rfl]
            omega
          · have hb1 : (i + 1 == st) = false := beq_eq_false_iff_ne.mpr hla
            gi_wp2
            have hi2 := HI.out
            have hlen2 : (((pre ++ [x]).length : Nat) : Int) = i + 1 := by rw [List.length_append, show [x].length = 1 from rfl]; omega
            refine ⟨KeepsOthers.setCell _ _ _, (Below.refl w5.heap.size W2).setCell (p := ⟨Bi, 0, none⟩) hsz5 _, ⟨⟨⟨by rw [hlen2]; exact G1.out.set _, G2.out.setCell (p := ⟨Bi, 0, none⟩) hsz5 _⟩, G3.out.step (fun D hD _ => Below.heap_setCell _ _ _ D (by simp only; omega))⟩, (seq_snoc G4.out).2 (hxx.trans HRD.out), ?_⟩⟩
            rw [List.length_append, show [x].length = 1 from rfl]
            omega
        · have hb0 : (x != rd want i) = true := bne_iff_ne.mpr hxx
          gi_wp2
          exact ⟨KeepsOthers.setCell _ _ _, .inr ⟨rfl, fun h => hxx (((seq_snoc G4.out).1 h).trans HRD.out.symm)⟩⟩
      case done =>
        rintro D xs W2 hD hxs ⟨⟨⟨g1, g2⟩, g3⟩, g4, g5⟩ hK
        have hl : xs.length = N := by rw [hxs]; simp
        rw [hl] at g1 g5
        have hmin : (if ((want.length : Nat) : Int) < st then ((want.length : Nat) : Int) else st) = (N : Int) := by
          have := hNL.out
          rw [this, if_pos (by omega)]
          omega
        have hcI := g1.cell
        have hc5 := (bxBelow hb5d g2 (by omega)).cell
        have hc9 := (bxBelow hb9d g2 (by omega)).cell
        have hne : ((N : Int) != (N : Int)) = false := by simp
        have hDW := (Array.getElem?_eq_some_iff.1 hK).1
        have HM := Aside0.mk (g3.cons (T' := W2.heap.size) (D := D) (by omega) (by omega) hDW hK)
        have HB2 := Aside0.mk g2
        clear g1 g2 g3 g4 hK
        go_wp2
        refine ⟨⟨p + 1, _, _, _, _, _, _, _, _, _, _, _, _, _, rfl, by omega, HB2.out, HM.out⟩, ?_⟩
        rw [roundsLeft_at rfl, roundsLeft_at rfl]
        omega
      case stop =>
        rintro D c pre W2 hD ⟨j, hj, hpre⟩ hX hK
        have hl : pre.length = j := by rw [hpre]; simp
        rcases hX with ⟨⟨⟨rfl, g1⟩, g2⟩, g3, g4⟩ | ⟨_, h⟩
        · have hmin : (if ((want.length : Nat) : Int) < st then ((want.length : Nat) : Int) else st) = st := by
            have := hNL.out
            rw [this, if_neg (by omega)]
          have hcI := g1.cell
          have hc5 := (bxBelow hb5d g2 (by omega)).cell
          have hc9 := (bxBelow hb9d g2 (by omega)).cell
          have hne : (st != st) = false := by simp
          have hDW := (Array.getElem?_eq_some_iff.1 hK).1
          have HM := Aside0.mk (g3.cons (T' := W2.heap.size) (D := D) (by omega) (by omega) hDW hK)
          have HB2 := Aside0.mk g2
          clear g1 g2 g3 g4 hK
          refine wpIn_wide.2 ?_
          go_wp2
          refine ⟨⟨p + 1, _, _, _, _, _, _, _, _, _, _, _, _, _, rfl, by omega, HB2.out, HM.out⟩, ?_⟩
          rw [roundsLeft_at rfl, roundsLeft_at rfl]
          omega
        · exact absurd (by rw [hl]; exact hpre) h
    · have hd2 : decide ((p : Int) < 2) = false := decide_eq_false hp2
      have hsz5I : wI.heap.size + 2 ≤ w5.heap.size := by omega
      have hb8w := bxBelow hb8d hBW (by omega)
      have hszW : w5.heap.size ≤ W.heap.size := hBW.size
      obtain ⟨w, hw⟩ : ∃ w, W = w := ⟨_, rfl⟩
      rw [hw] at hBW hM hb8w hszW ⊢
      clear hw hb5d hb8d hb9d hel5 hcm hs hwant
      replace hBW := Aside0.mk hBW
      replace hM := Aside0.mk hM
      replace hB5 := Aside0.mk hB5
      have HB := Aside0.mk (Below.refl w.heap.size w)
      have h := HTAIL.out
      have H : ((cubitref03_Of.f k a2 a3).bind fun bt140 => ((bits_Of.f k a2 a3).bind fun bt144 => ((bits_Of.f k a2 a3).bind fun bt148 => (if bt144.2 = bt140.2 then (if (bt144.1.length : Int) = (bt140.1.length : Int) then (setsTail.j0 k bt140.1 bt144.1 bt148.1 ((bt148.1.length : Int) != (bt140.1.length : Int))) else (setsTail.j0 k bt140.1 bt144.1 bt148.1 true)) else (setsTail.j0 k bt140.1 bt144.1 bt148.1 true))))) = some r := h
      clear h
      replace H := Option.bind_eq_some_iff.mp H
      obtain ⟨⟨t140, t141⟩, A50, H⟩ := H
      replace H : ((bits_Of.f k a2 a3).bind fun bt144 => ((bits_Of.f k a2 a3).bind fun bt148 => (if bt144.2 = t141 then (if (bt144.1.length : Int) = (t140.length : Int) then (setsTail.j0 k t140 bt144.1 bt148.1 ((bt148.1.length : Int) != (t140.length : Int))) else (setsTail.j0 k t140 bt144.1 bt148.1 true)) else (setsTail.j0 k t140 bt144.1 bt148.1 true)))) = some r := H
      have A5 := Aside0.mk A50
      clear A50
      replace H := Option.bind_eq_some_iff.mp H
      obtain ⟨⟨t144, t145⟩, A60, H⟩ := H
      replace H : ((bits_Of.f k a2 a3).bind fun bt148 => (if t145 = t141 then (if (t144.length : Int) = (t140.length : Int) then (setsTail.j0 k t140 t144 bt148.1 ((bt148.1.length : Int) != (t140.length : Int))) else (setsTail.j0 k t140 t144 bt148.1 true)) else (setsTail.j0 k t140 t144 bt148.1 true))) = some r := H
      have A6 := Aside0.mk A60
      clear A60
      replace H := Option.bind_eq_some_iff.mp H
      obtain ⟨⟨t148, t149⟩, A70, H⟩ := H
      replace H : (if t145 = t141 then (if (t144.length : Int) = (t140.length : Int) then (setsTail.j0 k t140 t144 t148 ((t148.length : Int) != (t140.length : Int))) else (setsTail.j0 k t140 t144 t148 true)) else (setsTail.j0 k t140 t144 t148 true)) = some r := H
      have A7 := Aside0.mk A70
      clear A70
      have HC8 := Aside0.mk H
      clear H
      go_upto_region 23 with (first | (go_at_call 22; (with_reducible refine (cubitref03_Of.calls k a2 a3 t140 t141 _ A5.out).mono ?_); rintro e w9 ⟨v142, rfl, ho0, hb⟩; have n0_ := Aside0.mk (Kd.R_lower ho0 (below_size (by repeat (first | (with_reducible first | exact HB.out | apply below_alloc | apply pw_below_drewN | apply below_drew1) | exact HB.out)))); have n1_ := Aside0.mk (below_step (by repeat (first | (with_reducible first | exact HB.out | apply below_alloc | apply pw_below_drewN | apply below_drew1) | exact HB.out)) hb); clear HB; have HO143 := n0_; have HB := n1_; clear n0_ n1_; (try clear hb); (try clear hb2); (try clear hk); (try clear hi); (try clear ho0)) | (go_at_call 14; (with_reducible refine (bits_Of.calls k a2 a3 t144 t145 _ A6.out).mono ?_); rintro e w10 ⟨v146, rfl, ho0, hb⟩; have n0_ := Aside0.mk (Kd.R_elder' (by (with_reducible repeat (first | apply Kd.R_alloc | apply Kd.R_drewN | apply Kd.R_drew)); exact HO143.out) (Kd.R_base ho0) hb); have n1_ := Aside0.mk (Kd.R_lower (Kd.R_new' ho0 (Kd.R_lt (by (with_reducible repeat (first | apply Kd.R_alloc | apply Kd.R_drewN | apply Kd.R_drew)); exact HO143.out))) (below_size (by repeat (first | (with_reducible first | exact HB.out | apply below_alloc | apply pw_below_drewN | apply below_drew1) | exact HB.out)))); have n2_ := Aside0.mk (below_step (by repeat (first | (with_reducible first | exact HB.out | apply below_alloc | apply pw_below_drewN | apply below_drew1) | exact HB.out)) hb); clear HO143; clear HB; have HO143 := n0_; have HO147 := n1_; have HB := n2_; clear n0_ n1_ n2_; (try clear hb); (try clear hb2); (try clear hk); (try clear hi); (try clear ho0); clear A6) | (go_at_call 14; (with_reducible refine (bits_Of.calls k a2 a3 t148 t149 _ A7.out).mono ?_); rintro e w11 ⟨v150, rfl, ho0, hb⟩; have n0_ := Aside0.mk (Kd.R_elder' (by (with_reducible repeat (first | apply Kd.R_alloc | apply Kd.R_drewN | apply Kd.R_drew)); exact HO143.out) (Kd.R_base ho0) hb); have n1_ := Aside0.mk (Kd.R_elder' (by (with_reducible repeat (first | apply Kd.R_alloc | apply Kd.R_drewN | apply Kd.R_drew)); exact HO147.out) (Kd.R_base ho0) hb); have n2_ := Aside0.mk (Kd.R_lower (Kd.R_new' (Kd.R_new' ho0 (Kd.R_lt (by (with_reducible repeat (first | apply Kd.R_alloc | apply Kd.R_drewN | apply Kd.R_drew)); exact HO143.out))) (Kd.R_lt (by (with_reducible repeat (first | apply Kd.R_alloc | apply Kd.R_drewN | apply Kd.R_drew)); exact HO147.out))) (below_size (by repeat (first | (with_reducible first | exact HB.out | apply below_alloc | apply pw_below_drewN | apply below_drew1) | exact HB.out)))); have n3_ := Aside0.mk (below_step (by repeat (first | (with_reducible first | exact HB.out | apply below_alloc | apply pw_below_drewN | apply below_drew1) | exact HB.out)) hb); clear HO143; clear HO147; clear HB; have HO143 := n0_; have HO147 := n1_; have HO151 := n2_; have HB := n3_; clear n0_ n1_ n2_ n3_; (try clear hb); (try clear hb2); (try clear hk); (try clear hi); (try clear ho0)))
      repeat (go_quiet (first | (go_at_call 22; (with_reducible refine (cubitref03_Of.calls k a2 a3 t140 t141 _ A5.out).mono ?_); rintro e w9 ⟨v142, rfl, ho0, hb⟩; have n0_ := Aside0.mk (Kd.R_lower ho0 (below_size (by repeat (first | (with_reducible first | exact HB.out | apply below_alloc | apply pw_below_drewN | apply below_drew1) | exact HB.out)))); have n1_ := Aside0.mk (below_step (by repeat (first | (with_reducible first | exact HB.out | apply below_alloc | apply pw_below_drewN | apply below_drew1) | exact HB.out)) hb); clear HB; have HO143 := n0_; have HB := n1_; clear n0_ n1_; (try clear hb); (try clear hb2); (try clear hk); (try clear hi); (try clear ho0)) | (go_at_call 14; (with_reducible refine (bits_Of.calls k a2 a3 t144 t145 _ A6.out).mono ?_); rintro e w10 ⟨v146, rfl, ho0, hb⟩; have n0_ := Aside0.mk (Kd.R_elder' (by (with_reducible repeat (first | apply Kd.R_alloc | apply Kd.R_drewN | apply Kd.R_drew)); exact HO143.out) (Kd.R_base ho0) hb); have n1_ := Aside0.mk (Kd.R_lower (Kd.R_new' ho0 (Kd.R_lt (by (with_reducible repeat (first | apply Kd.R_alloc | apply Kd.R_drewN | apply Kd.R_drew)); exact HO143.out))) (below_size (by repeat (first | (with_reducible first | exact HB.out | apply below_alloc | apply pw_below_drewN | apply below_drew1) | exact HB.out)))); have n2_ := Aside0.mk (below_step (by repeat (first | (with_reducible first | exact HB.out | apply below_alloc | apply pw_below_drewN | apply below_drew1) | exact HB.out)) hb); clear HO143; clear HB; have HO143 := n0_; have HO147 := n1_; have HB := n2_; clear n0_ n1_ n2_; (try clear hb); (try clear hb2); (try clear hk); (try clear hi); (try clear ho0); clear A6) | (go_at_call 14; (with_reducible refine (bits_Of.calls k a2 a3 t148 t149 _ A7.out).mono ?_); rintro e w11 ⟨v150, rfl, ho0, hb⟩; have n0_ := Aside0.mk (Kd.R_elder' (by (with_reducible repeat (first | apply Kd.R_alloc | apply Kd.R_drewN | apply Kd.R_drew)); exact HO143.out) (Kd.R_base ho0) hb); have n1_ := Aside0.mk (Kd.R_elder' (by (with_reducible repeat (first | apply Kd.R_alloc | apply Kd.R_drewN | apply Kd.R_drew)); exact HO147.out) (Kd.R_base ho0) hb); have n2_ := Aside0.mk (Kd.R_lower (Kd.R_new' (Kd.R_new' ho0 (Kd.R_lt (by (with_reducible repeat (first | apply Kd.R_alloc | apply Kd.R_drewN | apply Kd.R_drew)); exact HO143.out))) (Kd.R_lt (by (with_reducible repeat (first | apply Kd.R_alloc | apply Kd.R_drewN | apply Kd.R_drew)); exact HO147.out))) (below_size (by repeat (first | (with_reducible first | exact HB.out | apply below_alloc | apply pw_below_drewN | apply below_drew1) | exact HB.out)))); have n3_ := Aside0.mk (below_step (by repeat (first | (with_reducible first | exact HB.out | apply below_alloc | apply pw_below_drewN | apply below_drew1) | exact HB.out)) hb); clear HO143; clear HO147; clear HB; have HO143 := n0_; have HO147 := n1_; have HO151 := n2_; have HB := n3_; clear n0_ n1_ n2_ n3_; (try clear hb); (try clear hb2); (try clear hk); (try clear hi); (try clear ho0))); go_upto_region 23 with (first | (go_at_call 22; (with_reducible refine (cubitref03_Of.calls k a2 a3 t140 t141 _ A5.out).mono ?_); rintro e w9 ⟨v142, rfl, ho0, hb⟩; have n0_ := Aside0.mk (Kd.R_lower ho0 (below_size (by repeat (first | (with_reducible first | exact HB.out | apply below_alloc | apply pw_below_drewN | apply below_drew1) | exact HB.out)))); have n1_ := Aside0.mk (below_step (by repeat (first | (with_reducible first | exact HB.out | apply below_alloc | apply pw_below_drewN | apply below_drew1) | exact HB.out)) hb); clear HB; have HO143 := n0_; have HB := n1_; clear n0_ n1_; (try clear hb); (try clear hb2); (try clear hk); (try clear hi); (try clear ho0)) | (go_at_call 14; (with_reducible refine (bits_Of.calls k a2 a3 t144 t145 _ A6.out).mono ?_); rintro e w10 ⟨v146, rfl, ho0, hb⟩; have n0_ := Aside0.mk (Kd.R_elder' (by (with_reducible repeat (first | apply Kd.R_alloc | apply Kd.R_drewN | apply Kd.R_drew)); exact HO143.out) (Kd.R_base ho0) hb); have n1_ := Aside0.mk (Kd.R_lower (Kd.R_new' ho0 (Kd.R_lt (by (with_reducible repeat (first | apply Kd.R_alloc | apply Kd.R_drewN | apply Kd.R_drew)); exact HO143.out))) (below_size (by repeat (first | (with_reducible first | exact HB.out | apply below_alloc | apply pw_below_drewN | apply below_drew1) | exact HB.out)))); have n2_ := Aside0.mk (below_step (by repeat (first | (with_reducible first | exact HB.out | apply below_alloc | apply pw_below_drewN | apply below_drew1) | exact HB.out)) hb); clear HO143; clear HB; have HO143 := n0_; have HO147 := n1_; have HB := n2_; clear n0_ n1_ n2_; (try clear hb); (try clear hb2); (try clear hk); (try clear hi); (try clear ho0); clear A6) | (go_at_call 14; (with_reducible refine (bits_Of.calls k a2 a3 t148 t149 _ A7.out).mono ?_); rintro e w11 ⟨v150, rfl, ho0, hb⟩; have n0_ := Aside0.mk (Kd.R_elder' (by (with_reducible repeat (first | apply Kd.R_alloc | apply Kd.R_drewN | apply Kd.R_drew)); exact HO143.out) (Kd.R_base ho0) hb); have n1_ := Aside0.mk (Kd.R_elder' (by (with_reducible repeat (first | apply Kd.R_alloc | apply Kd.R_drewN | apply Kd.R_drew)); exact HO147.out) (Kd.R_base ho0) hb); have n2_ := Aside0.mk (Kd.R_lower (Kd.R_new' (Kd.R_new' ho0 (Kd.R_lt (by (with_reducible repeat (first | apply Kd.R_alloc | apply Kd.R_drewN | apply Kd.R_drew)); exact HO143.out))) (Kd.R_lt (by (with_reducible repeat (first | apply Kd.R_alloc | apply Kd.R_drewN | apply Kd.R_drew)); exact HO147.out))) (below_size (by repeat (first | (with_reducible first | exact HB.out | apply below_alloc | apply pw_below_drewN | apply below_drew1) | exact HB.out)))); have n3_ := Aside0.mk (below_step (by repeat (first | (with_reducible first | exact HB.out | apply below_alloc | apply pw_below_drewN | apply below_drew1) | exact HB.out)) hb); clear HO143; clear HO147; clear HB; have HO143 := n0_; have HO147 := n1_; have HO151 := n2_; have HB := n3_; clear n0_ n1_ n2_ n3_; (try clear hb); (try clear hb2); (try clear hk); (try clear hi); (try clear ho0))))
      (try simp only [Act.put, List.setIfInBounds_toArray, List.set_cons_zero, List.set_cons_succ])
      go_cut [98] from 64 (fun v98 wc => ∃ (kq : Nat) (x98_7 : Bool), v98 = .bool x98_7 ∧ Aside0 (setsTail.j0 kq t140 t144 t148 x98_7 = some r) ∧ Aside0 (kq ≤ k) ∧ Aside0 (Kd.R (Kd.int .u64) 22 wc w.heap.size (fun k_ => some k_ ≠ (v146 : Value).ownBlock ∧ some k_ ≠ (v150 : Value).ownBlock) v142 t140) ∧ Aside0 (Kd.R (Kd.int .u64) 22 wc w.heap.size (fun k_ => some k_ ≠ (v142 : Value).ownBlock ∧ some k_ ≠ (v150 : Value).ownBlock) v146 t144) ∧ Aside0 (Kd.R (Kd.int .u64) 22 wc w.heap.size (fun k_ => some k_ ≠ (v142 : Value).ownBlock ∧ some k_ ≠ (v146 : Value).ownBlock) v150 t148) ∧ Aside0 (Below w.heap.size w wc))
      case first =>
        have H := HC8.out
        clear HC8
        by_cases c12 : t145 = t141
        · rw [if_pos c12] at H
          have c12b0 : (t145 == t141) = true := beq_iff_eq.mpr c12
          have c12b1 : (t145 != t141) = false := bne_eq_false_iff_eq.mpr c12
          clear c12
          (first | rw [c12b0] | (simp only [i64_w, i32_w]; rw [c12b0]) | skip)
          by_cases c13 : (t144.length : Int) = (t140.length : Int)
          · rw [if_pos c13] at H
            have c13b0 : ((t144.length : Int) == (t140.length : Int)) = true := beq_iff_eq.mpr c13
            have c13b1 : ((t144.length : Int) != (t140.length : Int)) = false := bne_eq_false_iff_eq.mpr c13
            have c13b2 : (t144.length == t140.length) = true := by first | simpa using c13 | (simp at c13 ⊢; omega)
            clear c13
            have H' := Aside0.mk H
            clear H
            obtain ⟨Ao14, co14, eo14⟩ := Kd.R_slice HO147.out
            subst eo14
            obtain ⟨Ao15, co15, eo15⟩ := Kd.R_slice HO143.out
            subst eo15
            obtain ⟨Ao16, co16, eo16⟩ := Kd.R_slice HO151.out
            subst eo16
            go_wp2
            repeat (go_quiet (fail); try go_wp2)
            go_meet
            case rel => exact ⟨_, (((t148.length : Int) != (t140.length : Int))), (by first | rfl | (simp; done) | (simp [*]; done)), H', ⟨by first | omega | exact Nat.le_refl _⟩, ⟨by (with_reducible repeat (first | apply Kd.R_alloc | apply Kd.R_drewN | apply Kd.R_drew)); exact Kd.R_mono HO143.out (fun _ hk => ⟨hk.1.2, hk.2⟩)⟩, ⟨by (with_reducible repeat (first | apply Kd.R_alloc | apply Kd.R_drewN | apply Kd.R_drew)); exact Kd.R_mono HO147.out (fun _ hk => ⟨hk.1.2, hk.2⟩)⟩, ⟨by (with_reducible repeat (first | apply Kd.R_alloc | apply Kd.R_drewN | apply Kd.R_drew)); exact Kd.R_mono HO151.out (fun _ hk => ⟨hk.1.2, hk.2⟩)⟩, ⟨by repeat (first | (with_reducible first | exact HB.out | apply below_alloc | apply pw_below_drewN | apply below_drew1) | exact HB.out)⟩⟩
          · rw [if_neg c13] at H
            have c13b0 : ((t144.length : Int) == (t140.length : Int)) = false := beq_eq_false_iff_ne.mpr c13
            have c13b1 : ((t144.length : Int) != (t140.length : Int)) = true := bne_iff_ne.mpr c13
            have c13b2 : (t144.length == t140.length) = false := by first | simpa using c13 | (simp at c13 ⊢; omega)
            have H' := Aside0.mk H
            clear H
            obtain ⟨Ao17, co17, eo17⟩ := Kd.R_slice HO147.out
            subst eo17
            obtain ⟨Ao18, co18, eo18⟩ := Kd.R_slice HO143.out
            subst eo18
            go_wp2
            repeat (go_quiet (fail); try go_wp2)
            go_meet
            case rel => exact ⟨_, (true), (by first | rfl | (simp; done) | (simp [*]; done)), H', ⟨by first | omega | exact Nat.le_refl _⟩, ⟨by (with_reducible repeat (first | apply Kd.R_alloc | apply Kd.R_drewN | apply Kd.R_drew)); exact Kd.R_mono HO143.out (fun _ hk => ⟨hk.1.2, hk.2⟩)⟩, ⟨by (with_reducible repeat (first | apply Kd.R_alloc | apply Kd.R_drewN | apply Kd.R_drew)); exact Kd.R_mono HO147.out (fun _ hk => ⟨hk.1.2, hk.2⟩)⟩, ⟨by (with_reducible repeat (first | apply Kd.R_alloc | apply Kd.R_drewN | apply Kd.R_drew)); exact Kd.R_mono HO151.out (fun _ hk => ⟨hk.1.2, hk.2⟩)⟩, ⟨by repeat (first | (with_reducible first | exact HB.out | apply below_alloc | apply pw_below_drewN | apply below_drew1) | exact HB.out)⟩⟩
        · rw [if_neg c12] at H
          have c12b0 : (t145 == t141) = false := beq_eq_false_iff_ne.mpr c12
          have c12b1 : (t145 != t141) = true := bne_iff_ne.mpr c12
          (first | rw [c12b0] | (simp only [i64_w, i32_w]; rw [c12b0]) | skip)
          have H' := Aside0.mk H
          clear H
          go_wp2
          repeat (go_quiet (fail); try go_wp2)
          go_meet
          case rel => exact ⟨_, (true), (by first | rfl | (simp; done) | (simp [*]; done)), H', ⟨by first | omega | exact Nat.le_refl _⟩, ⟨by (with_reducible repeat (first | apply Kd.R_alloc | apply Kd.R_drewN | apply Kd.R_drew)); exact Kd.R_mono HO143.out (fun _ hk => ⟨hk.1.2, hk.2⟩)⟩, ⟨by (with_reducible repeat (first | apply Kd.R_alloc | apply Kd.R_drewN | apply Kd.R_drew)); exact Kd.R_mono HO147.out (fun _ hk => ⟨hk.1.2, hk.2⟩)⟩, ⟨by (with_reducible repeat (first | apply Kd.R_alloc | apply Kd.R_drewN | apply Kd.R_drew)); exact Kd.R_mono HO151.out (fun _ hk => ⟨hk.1.2, hk.2⟩)⟩, ⟨by repeat (first | (with_reducible first | exact HB.out | apply below_alloc | apply pw_below_drewN | apply below_drew1) | exact HB.out)⟩⟩
      case rest =>
        clear HC8
        try clear c1
        try clear p2
        try clear c6
        try clear c12
        try clear c12b0
        try clear c12b1
        try clear c13
        try clear c13b0
        try clear c13b1
        try clear c13b2
        obtain ⟨kq, x98_7, rfl, HA, HJ7, HO_14, HO_16, HO_18, HB⟩ := hcut
        cases kq with
        | zero => exact absurd HA.out (by simp [setsTail.j0])
        | succ kj7 =>
          have H := HA.out
          clear HA
          simp only [setsTail.j0] at H
          by_cases c19 : x98_7 = true
          · subst c19
            have H1 : (some false) = some r := by rw [if_pos rfl] at H; exact H
            clear H
            have H := H1
            clear H1
            exact absurd (HTRUE.out.symm.trans (Option.some.inj H).symm) (by decide)
          · replace c19 := Bool.eq_false_iff.mpr c19
            subst c19
            have H1 : (setsTail.l0 kj7 t140 t144 t148 0) = some r := by rw [if_neg (show ¬ (false = true) by decide)] at H; exact H
            clear H
            have H := H1
            clear H1
            have H' := Aside0.mk H
            clear H
            go_wp2
            repeat (go_quiet (fail); try go_wp2)
            go_loopg [20] kj7 (fun kq v20 w' => ∃ (x16_2 : List Int) (x20_2 : Int), v20 = .int .i64 x20_2 ∧ Aside0 (setsTail.l0 kq t140 x16_2 t148 x20_2 = some r) ∧ Aside0 (kq ≤ kj7) ∧ Aside0 (Kd.R (Kd.int .u64) 22 w' w.heap.size (fun k_ => some k_ ≠ (v146 : Value).ownBlock ∧ some k_ ≠ (v150 : Value).ownBlock) v142 t140) ∧ Aside0 (Kd.R (Kd.int .u64) 22 w' w.heap.size (fun k_ => some k_ ≠ (v142 : Value).ownBlock ∧ some k_ ≠ (v150 : Value).ownBlock) v146 x16_2) ∧ Aside0 (Kd.R (Kd.int .u64) 22 w' w.heap.size (fun k_ => some k_ ≠ (v142 : Value).ownBlock ∧ some k_ ≠ (v146 : Value).ownBlock) v150 t148) ∧ Aside0 (Below w.heap.size w w'))
            case atStart => exact ⟨(t144), (0), (by first | rfl | (simp; done) | (simp [*]; done)), H', ⟨Nat.le_refl _⟩, ⟨by (with_reducible repeat (first | apply Kd.R_alloc | apply Kd.R_drewN | apply Kd.R_drew)); exact HO_14.out⟩, ⟨by (with_reducible repeat (first | apply Kd.R_alloc | apply Kd.R_drewN | apply Kd.R_drew)); exact HO_16.out⟩, ⟨by (with_reducible repeat (first | apply Kd.R_alloc | apply Kd.R_drewN | apply Kd.R_drew)); exact HO_18.out⟩, ⟨by repeat (first | (with_reducible first | exact HB.out | apply below_alloc | apply pw_below_drewN | apply below_drew1) | exact HB.out)⟩⟩
            case round =>
              clear H'
              try clear c1
              try clear p2
              try clear c6
              try clear c12
              try clear c12b0
              try clear c12b1
              try clear c13
              try clear c13b0
              try clear c13b1
              try clear c13b2
              try clear c19
              try clear p2
              obtain ⟨x16_2, x20_2, rfl, HA, HK2, HO_14, HO_16, HO_18, HB⟩ := hrel
              cases gk with
              | zero => exact absurd HA.out (by simp [setsTail.l0])
              | succ k2 =>
                have H := HA.out
                clear HA
                simp only [setsTail.l0] at H
                by_cases c20 : x20_2 < (t140.length : Int)
                · rw [if_pos c20] at H
                  have c20b0 : decide (x20_2 < (t140.length : Int)) = true := decide_eq_true c20
                  clear c20
                  by_cases c21 : 0 ≤ x20_2
                  · rw [if_pos c21] at H
                    have c21b0 : decide (0 ≤ x20_2) = true := decide_eq_true c21
                    clear c21
                    by_cases c22 : x20_2 < (x16_2.length : Int)
                    · rw [if_pos c22] at H
                      have c22b0 : decide (x20_2 < (x16_2.length : Int)) = true := decide_eq_true c22
                      clear c22
                      by_cases c23 : (rd x16_2 x20_2) = (rd t140 x20_2)
                      · rw [if_pos c23] at H
                        have c23b0 : ((rd x16_2 x20_2) == (rd t140 x20_2)) = true := beq_iff_eq.mpr c23
                        have c23b1 : ((rd x16_2 x20_2) != (rd t140 x20_2)) = false := bne_eq_false_iff_eq.mpr c23
                        clear c23
                        obtain ⟨y154, hy154⟩ : ∃ y_ : List Int, y_ = (x16_2.set (x20_2 : Int).toNat 9) := ⟨_, rfl⟩
                        replace H : (setsTail.l0 k2 t140 y154 t148 (wrap64 (x20_2 + 1))) = some r := by first | (rw [hy154]; with_reducible exact H) | (have H2_ := (Option.bind_some _ _).symm.trans H; rw [hy154]; with_reducible exact H2_) | (have H2_ := (Option.bind_some _ _).symm.trans H; with_reducible exact H2_) | with_reducible exact H | (rw [hy154]; exact H) | exact H
                        have Ny154 := Aside0.mk hy154
                        clear hy154
                        have H' := Aside0.mk H
                        clear H
                        obtain ⟨Ao25, co25, eo25⟩ := Kd.R_slice HO_14.out
                        subst eo25
                        obtain ⟨Ao26, co26, eo26⟩ := Kd.R_slice HO_16.out
                        subst eo26
                        have p152 : 0 ≤ (x20_2 : Int) := of_decide_eq_true (by first | (with_reducible assumption) | assumption)
                        have q152 : x20_2 < (x16_2.length : Int) := of_decide_eq_true (by first | (with_reducible assumption) | assumption)
                        obtain ⟨ad152, e152, hx152_0⟩ := Kd.at_int (Kd.R_reads' HO_16.out).2.2 x20_2 p152 q152
                        cases e152
                        replace p152 := eq_true p152
                        replace q152 := eq_true q152
                        have p153 : 0 ≤ (x20_2 : Int) := of_decide_eq_true (by first | (with_reducible assumption) | assumption)
                        have q153 : x20_2 < (t140.length : Int) := of_decide_eq_true (by first | (with_reducible assumption) | assumption)
                        obtain ⟨ad153, e153, hx153_0⟩ := Kd.at_int (Kd.R_reads' HO_14.out).2.2 x20_2 p153 q153
                        cases e153
                        replace p153 := eq_true p153
                        replace q153 := eq_true q153
                        have p24 : 0 ≤ (x20_2 : Int) := of_decide_eq_true (by first | (with_reducible assumption) | assumption)
                        have q24 : (x20_2 : Int) < ((x16_2.length : Int) : Int) := of_decide_eq_true (by first | (with_reducible assumption) | assumption)
                        obtain ⟨go24, co24, eo24, gb24, gl24, cl24, HG24⟩ := Kd.R_form HO_16.out (by omega)
                        (first | cases eo24 | (injection eo24 with ea_ en_ ec_; (first | subst ea_ | (injection ea_ with ea_; subst ea_)); subst ec_; clear en_))
                        have GB24 := Aside0.mk gb24
                        have GG24 := Aside0.mk HG24
                        clear gb24 gl24 HG24
                        (first | simp only [add_plain] at hx152_0 | skip)
                        obtain ⟨hx24_0, hf24_0⟩ := Kd.R_celln 0 HO_16.out (x20_2 : Int) p24 q24
                        replace p24 := eq_true p24
                        replace q24 := eq_true q24
                        have HP27 := Kd.R_putg HO_16.out (x20_2 : Int) 9
                        go_wp2_with (first | ((with_reducible refine gate_store (t := 22) (p := 116) rfl ?_); (try (rw [drewN_self wr]; generalize hq_ : World.drewN wr _ = wr; have n0_ := Aside0.mk (Kd.R_at hq_ HO_14.out); have n1_ := Aside0.mk (Kd.R_at hq_ HO_16.out); have n2_ := Aside0.mk (Kd.R_at hq_ HO_18.out); have n3_ := Aside0.mk (below_at hq_ HB.out); clear hq_ HO_14 HO_16 HO_18 HB; have HO_14 := n0_; have HO_16 := n1_; have HO_18 := n2_; have HB := n3_; clear n0_ n1_ n2_ n3_; (try (have HP27 := Kd.R_putg HO_16.out (x20_2 : Int) 9)))); refine store_event (t := 22) (p := 116) (v := ?vo_w28) (w1 := (wr.setCell ⟨go24, (x20_2 : Int).toNat, none⟩ (.int .u64 9))) ?hg ?ho ?hn ?hr ?_; (case ho => rfl); (case hg => rfl); (case hn => rfl); (case hr => first | (go_simp; done) | (go_simp; rfl)); intro w28 hw; have hg : wr.grownBy w28 (some go24) := (by rw [hw]; exact HP27.2); have hp_ : Kd.R (Kd.int .u64) 22 w28 w.heap.size (fun k_ => some k_ ≠ (.slice (some ad153) t140.length co25 : Value).ownBlock ∧ some k_ ≠ (v150 : Value).ownBlock) (.slice (some ⟨go24, 0, none⟩) x16_2.length co26) y154 := (by rw [hw, Ny154.out]; exact HP27.1); clear HP27; have n0_ := Aside0.mk (Kd.R_after (v := (.slice (some ⟨go24, 0, none⟩) x16_2.length co26)) (v1 := (.slice (some ⟨go24, 0, none⟩) x16_2.length co26)) (ok := (fun k_ => some k_ ≠ (v150 : Value).ownBlock)) (by (with_reducible repeat (first | apply Kd.R_alloc | apply Kd.R_drewN | apply Kd.R_drew)); exact Kd.R_mono HO_14.out (fun _ hk => ⟨hk.2, hk.1⟩)) hg (.inl rfl)); have n1_ := Aside0.mk (hp_); have n2_ := Aside0.mk (Kd.R_after (v := (.slice (some ⟨go24, 0, none⟩) x16_2.length co26)) (v1 := (.slice (some ⟨go24, 0, none⟩) x16_2.length co26)) (ok := (fun k_ => some k_ ≠ (.slice (some ad153) t140.length co25 : Value).ownBlock)) (by (with_reducible repeat (first | apply Kd.R_alloc | apply Kd.R_drewN | apply Kd.R_drew)); exact HO_18.out) hg (.inl rfl)); have n3_ := Aside0.mk ((by rw [hw]; exact below_set (HB.out) GB24.out : Below w.heap.size w w28)); clear HO_14; clear HO_16; clear HO_18; clear HB; have HO_14 := n0_; have HO_16 := n1_; have HO_18 := n2_; have HB := n3_; clear n0_ n1_ n2_ n3_; clear hg hw hp_))
                        repeat (go_quiet (first | ((with_reducible refine gate_store (t := 22) (p := 116) rfl ?_); (try (rw [drewN_self wr]; generalize hq_ : World.drewN wr _ = wr; have n0_ := Aside0.mk (Kd.R_at hq_ HO_14.out); have n1_ := Aside0.mk (Kd.R_at hq_ HO_16.out); have n2_ := Aside0.mk (Kd.R_at hq_ HO_18.out); have n3_ := Aside0.mk (below_at hq_ HB.out); clear hq_ HO_14 HO_16 HO_18 HB; have HO_14 := n0_; have HO_16 := n1_; have HO_18 := n2_; have HB := n3_; clear n0_ n1_ n2_ n3_; (try (have HP27 := Kd.R_putg HO_16.out (x20_2 : Int) 9)))); refine store_event (t := 22) (p := 116) (v := ?vo_w28) (w1 := (wr.setCell ⟨go24, (x20_2 : Int).toNat, none⟩ (.int .u64 9))) ?hg ?ho ?hn ?hr ?_; (case ho => rfl); (case hg => rfl); (case hn => rfl); (case hr => first | (go_simp; done) | (go_simp; rfl)); intro w28 hw; have hg : wr.grownBy w28 (some go24) := (by rw [hw]; exact HP27.2); have hp_ : Kd.R (Kd.int .u64) 22 w28 w.heap.size (fun k_ => some k_ ≠ (.slice (some ad153) t140.length co25 : Value).ownBlock ∧ some k_ ≠ (v150 : Value).ownBlock) (.slice (some ⟨go24, 0, none⟩) x16_2.length co26) y154 := (by rw [hw, Ny154.out]; exact HP27.1); clear HP27; have n0_ := Aside0.mk (Kd.R_after (v := (.slice (some ⟨go24, 0, none⟩) x16_2.length co26)) (v1 := (.slice (some ⟨go24, 0, none⟩) x16_2.length co26)) (ok := (fun k_ => some k_ ≠ (v150 : Value).ownBlock)) (by (with_reducible repeat (first | apply Kd.R_alloc | apply Kd.R_drewN | apply Kd.R_drew)); exact Kd.R_mono HO_14.out (fun _ hk => ⟨hk.2, hk.1⟩)) hg (.inl rfl)); have n1_ := Aside0.mk (hp_); have n2_ := Aside0.mk (Kd.R_after (v := (.slice (some ⟨go24, 0, none⟩) x16_2.length co26)) (v1 := (.slice (some ⟨go24, 0, none⟩) x16_2.length co26)) (ok := (fun k_ => some k_ ≠ (.slice (some ad153) t140.length co25 : Value).ownBlock)) (by (with_reducible repeat (first | apply Kd.R_alloc | apply Kd.R_drewN | apply Kd.R_drew)); exact HO_18.out) hg (.inl rfl)); have n3_ := Aside0.mk ((by rw [hw]; exact below_set (HB.out) GB24.out : Below w.heap.size w w28)); clear HO_14; clear HO_16; clear HO_18; clear HB; have HO_14 := n0_; have HO_16 := n1_; have HO_18 := n2_; have HB := n3_; clear n0_ n1_ n2_ n3_; clear hg hw hp_)); try go_wp2_with (first | ((with_reducible refine gate_store (t := 22) (p := 116) rfl ?_); (try (rw [drewN_self wr]; generalize hq_ : World.drewN wr _ = wr; have n0_ := Aside0.mk (Kd.R_at hq_ HO_14.out); have n1_ := Aside0.mk (Kd.R_at hq_ HO_16.out); have n2_ := Aside0.mk (Kd.R_at hq_ HO_18.out); have n3_ := Aside0.mk (below_at hq_ HB.out); clear hq_ HO_14 HO_16 HO_18 HB; have HO_14 := n0_; have HO_16 := n1_; have HO_18 := n2_; have HB := n3_; clear n0_ n1_ n2_ n3_; (try (have HP27 := Kd.R_putg HO_16.out (x20_2 : Int) 9)))); refine store_event (t := 22) (p := 116) (v := ?vo_w28) (w1 := (wr.setCell ⟨go24, (x20_2 : Int).toNat, none⟩ (.int .u64 9))) ?hg ?ho ?hn ?hr ?_; (case ho => rfl); (case hg => rfl); (case hn => rfl); (case hr => first | (go_simp; done) | (go_simp; rfl)); intro w28 hw; have hg : wr.grownBy w28 (some go24) := (by rw [hw]; exact HP27.2); have hp_ : Kd.R (Kd.int .u64) 22 w28 w.heap.size (fun k_ => some k_ ≠ (.slice (some ad153) t140.length co25 : Value).ownBlock ∧ some k_ ≠ (v150 : Value).ownBlock) (.slice (some ⟨go24, 0, none⟩) x16_2.length co26) y154 := (by rw [hw, Ny154.out]; exact HP27.1); clear HP27; have n0_ := Aside0.mk (Kd.R_after (v := (.slice (some ⟨go24, 0, none⟩) x16_2.length co26)) (v1 := (.slice (some ⟨go24, 0, none⟩) x16_2.length co26)) (ok := (fun k_ => some k_ ≠ (v150 : Value).ownBlock)) (by (with_reducible repeat (first | apply Kd.R_alloc | apply Kd.R_drewN | apply Kd.R_drew)); exact Kd.R_mono HO_14.out (fun _ hk => ⟨hk.2, hk.1⟩)) hg (.inl rfl)); have n1_ := Aside0.mk (hp_); have n2_ := Aside0.mk (Kd.R_after (v := (.slice (some ⟨go24, 0, none⟩) x16_2.length co26)) (v1 := (.slice (some ⟨go24, 0, none⟩) x16_2.length co26)) (ok := (fun k_ => some k_ ≠ (.slice (some ad153) t140.length co25 : Value).ownBlock)) (by (with_reducible repeat (first | apply Kd.R_alloc | apply Kd.R_drewN | apply Kd.R_drew)); exact HO_18.out) hg (.inl rfl)); have n3_ := Aside0.mk ((by rw [hw]; exact below_set (HB.out) GB24.out : Below w.heap.size w w28)); clear HO_14; clear HO_16; clear HO_18; clear HB; have HO_14 := n0_; have HO_16 := n1_; have HO_18 := n2_; have HB := n3_; clear n0_ n1_ n2_ n3_; clear hg hw hp_)))
                        go_roundg k2
                        case measure => have := HJ7.out; have := HK2.out; omega
                        case rel =>
                          have HPD := Kd.R_putg (Kd.R_drewN HO_16.out nq) (x20_2 : Int) 9
                          have q14 := Kd.R_after (v := (.slice (some ⟨go24, 0, none⟩) x16_2.length co26)) (v1 := (.slice (some ⟨go24, 0, none⟩) x16_2.length co26)) (ok := (fun k_ => some k_ ≠ (v150 : Value).ownBlock)) (Kd.R_mono (Kd.R_drewN HO_14.out nq) (fun _ hk => ⟨hk.2, hk.1⟩)) HPD.2 (.inl rfl)
                          have q18 := Kd.R_after (v := (.slice (some ⟨go24, 0, none⟩) x16_2.length co26)) (v1 := (.slice (some ⟨go24, 0, none⟩) x16_2.length co26)) (ok := (fun k_ => some k_ ≠ (.slice (some ad153) t140.length co25 : Value).ownBlock)) (Kd.R_drewN HO_18.out nq) HPD.2 (.inl rfl)
                          exact ⟨(y154), (wrap64 (x20_2 + 1)), (by first | rfl | (simp; done) | (simp [*]; done)), H', ⟨by have := HJ7.out; have := HK2.out; omega⟩, ⟨Kd.R_mono q14 (fun _ hk => ⟨hk.2, hk.1⟩)⟩, ⟨by rw [Ny154.out]; exact HPD.1⟩, ⟨q18⟩, ⟨below_set (pw_below_drewN HB.out nq) GB24.out⟩⟩
                      · rw [if_neg c23] at H
                        have c23b0 : ((rd x16_2 x20_2) == (rd t140 x20_2)) = false := beq_eq_false_iff_ne.mpr c23
                        have c23b1 : ((rd x16_2 x20_2) != (rd t140 x20_2)) = true := bne_iff_ne.mpr c23
                        exact absurd (HTRUE.out.symm.trans (Option.some.inj H).symm) (by decide)
                    · rw [if_neg c22] at H
                      exact absurd H (by simp)
                  · rw [if_neg c21] at H
                    exact absurd H (by simp)
                · rw [if_neg c20] at H
                  have c20b0 : decide (x20_2 < (t140.length : Int)) = false := decide_eq_false c20
                  clear c20
                  have H' := Aside0.mk H
                  clear H
                  obtain ⟨Ao29, co29, eo29⟩ := Kd.R_slice HO_14.out
                  subst eo29
                  go_wp2
                  repeat (go_quiet (fail); try go_wp2)
                  go_loopg [21] k2 (fun kq v21 w' => ∃ (x21_3 : Int), v21 = .int .i64 x21_3 ∧ Aside0 (setsTail.l1 kq t140 t148 x21_3 = some r) ∧ Aside0 (kq ≤ k2) ∧ Aside0 (Kd.R (Kd.int .u64) 22 w' w.heap.size (fun k_ => some k_ ≠ (v150 : Value).ownBlock) (.slice Ao29 t140.length co29) t140) ∧ Aside0 (Kd.R (Kd.int .u64) 22 w' w.heap.size (fun k_ => some k_ ≠ ((.slice Ao29 t140.length co29) : Value).ownBlock) v150 t148) ∧ Aside0 (Below w.heap.size w w'))
                  case atStart => exact ⟨(0), (by first | rfl | (simp; done) | (simp [*]; done)), H', ⟨Nat.le_refl _⟩, ⟨by (with_reducible repeat (first | apply Kd.R_alloc | apply Kd.R_drewN | apply Kd.R_drew)); exact Kd.R_mono HO_14.out (fun _ hk => hk.2)⟩, ⟨by (with_reducible repeat (first | apply Kd.R_alloc | apply Kd.R_drewN | apply Kd.R_drew)); exact Kd.R_mono HO_18.out (fun _ hk => hk.1)⟩, ⟨by repeat (first | (with_reducible first | exact HB.out | apply below_alloc | apply pw_below_drewN | apply below_drew1) | exact HB.out)⟩⟩
                  case round =>
                    clear H'
                    try clear c1
                    try clear p1
                    try clear q1
                    try clear hx1
                    try clear c2
                    try clear p2
                    try clear q2
                    try clear hx2
                    try clear c6
                    try clear p6
                    try clear c12
                    try clear c12b0
                    try clear c12b1
                    try clear c13
                    try clear c13b0
                    try clear c13b1
                    try clear c13b2
                    try clear p15
                    try clear q15
                    try clear hx15
                    try clear c19
                    try clear c20
                    try clear c20b0
                    try clear c21
                    try clear c21b0
                    try clear c22
                    try clear c22b0
                    try clear c23
                    try clear c23b0
                    try clear c23b1
                    try clear p24
                    try clear q24
                    try clear hx24
                    try clear hf24
                    try clear hx152_0
                    try clear hx153_0
                    try clear hx24_0
                    try clear p152
                    try clear p153
                    try clear p2
                    try clear p24
                    try clear q152
                    try clear q153
                    try clear q24
                    obtain ⟨x21_3, rfl, HA, HK3, HO_14, HO_18, HB⟩ := hrel
                    cases gk with
                    | zero => exact absurd HA.out (by simp [setsTail.l1])
                    | succ k3 =>
                      have H := HA.out
                      clear HA
                      simp only [setsTail.l1] at H
                      by_cases c30 : x21_3 < (t140.length : Int)
                      · rw [if_pos c30] at H
                        have c30b0 : decide (x21_3 < (t140.length : Int)) = true := decide_eq_true c30
                        clear c30
                        by_cases c31 : 0 ≤ x21_3
                        · rw [if_pos c31] at H
                          have c31b0 : decide (0 ≤ x21_3) = true := decide_eq_true c31
                          clear c31
                          by_cases c32 : x21_3 < (t148.length : Int)
                          · rw [if_pos c32] at H
                            have c32b0 : decide (x21_3 < (t148.length : Int)) = true := decide_eq_true c32
                            clear c32
                            by_cases c33 : (rd t148 x21_3) = (rd t140 x21_3)
                            · rw [if_pos c33] at H
                              have c33b0 : ((rd t148 x21_3) == (rd t140 x21_3)) = true := beq_iff_eq.mpr c33
                              have c33b1 : ((rd t148 x21_3) != (rd t140 x21_3)) = false := bne_eq_false_iff_eq.mpr c33
                              clear c33
                              have H' := Aside0.mk H
                              clear H
                              obtain ⟨Ao34, co34, eo34⟩ := Kd.R_slice HO_18.out
                              subst eo34
                              have p155 : 0 ≤ (x21_3 : Int) := of_decide_eq_true (by first | (with_reducible assumption) | assumption)
                              have q155 : x21_3 < (t148.length : Int) := of_decide_eq_true (by first | (with_reducible assumption) | assumption)
                              obtain ⟨ad155, e155, hx155_0⟩ := Kd.at_int (Kd.R_reads' HO_18.out).2.2 x21_3 p155 q155
                              cases e155
                              replace p155 := eq_true p155
                              replace q155 := eq_true q155
                              have p156 : 0 ≤ (x21_3 : Int) := of_decide_eq_true (by first | (with_reducible assumption) | assumption)
                              have q156 : x21_3 < (t140.length : Int) := of_decide_eq_true (by first | (with_reducible assumption) | assumption)
                              obtain ⟨ad156, e156, hx156_0⟩ := Kd.at_int (Kd.R_reads' HO_14.out).2.2 x21_3 p156 q156
                              cases e156
                              replace p156 := eq_true p156
                              replace q156 := eq_true q156
                              go_wp2
                              repeat (go_quiet (fail); try go_wp2)
                              go_roundg k3
                              case measure => have := HJ7.out; have := HK2.out; have := HK3.out; omega
                              case rel => exact ⟨(wrap64 (x21_3 + 1)), (by first | rfl | (simp; done) | (simp [*]; done)), H', ⟨by have := HJ7.out; have := HK2.out; have := HK3.out; omega⟩, ⟨by (with_reducible repeat (first | apply Kd.R_alloc | apply Kd.R_drewN | apply Kd.R_drew)); exact HO_14.out⟩, ⟨by (with_reducible repeat (first | apply Kd.R_alloc | apply Kd.R_drewN | apply Kd.R_drew)); exact HO_18.out⟩, ⟨by repeat (first | (with_reducible first | exact HB.out | apply below_alloc | apply pw_below_drewN | apply below_drew1) | exact HB.out)⟩⟩
                            · rw [if_neg c33] at H
                              have c33b0 : ((rd t148 x21_3) == (rd t140 x21_3)) = false := beq_eq_false_iff_ne.mpr c33
                              have c33b1 : ((rd t148 x21_3) != (rd t140 x21_3)) = true := bne_iff_ne.mpr c33
                              exact absurd (HTRUE.out.symm.trans (Option.some.inj H).symm) (by decide)
                          · rw [if_neg c32] at H
                            exact absurd H (by simp)
                        · rw [if_neg c31] at H
                          exact absurd H (by simp)
                      · rw [if_neg c30] at H
                        have c30b0 : decide (x21_3 < (t140.length : Int)) = false := decide_eq_false c30
                        clear c30
                        obtain rfl := Option.some.inj H
                        have hb8L := bxBelow hb8w HB.out (by omega)
                        have hc8L := hb8L.cell
                        have hf8L := hb8L.frozen
                        have H8 := Aside0.mk hb8L
                        clear hb8L
                        go_wp2
                        repeat (go_quiet (fail); try go_wp2)
                        exact setsEnd wI w5 w _ ds hsz5I hB5.out hBW.out HB.out H8.out hM.out

/-- THE ONE PURE STATEMENT. -/
def cubitlaw03_BitsSets.Pure : Prop := ∀ (a0 : Int) (a1 : Int) (a2 : Int) (a3 : Int), (Lit.int .u64 a0).wf = true → (Lit.int .i64 a1).wf = true → (Lit.int .i64 a2).wf = true → (Lit.int .i64 a3).wf = true →
  ∃ (k : Nat) (st : Int) (N : Nat) (f : Nat → Int) (want : List Int), SetSeq a0 N f ∧ setsTail.f k a0 a1 a2 a3 = some true ∧ want = (List.range (min (st.toNat + 1) N)).map f ∧ cubitlaw03_awake.f k = some true ∧
    (if 300 < (if a1 < 1 then 1 else a1) then 300 else (if a1 < 1 then 1 else a1)) = st ∧ 1 ≤ st ∧ st ≤ 300 ∧ cubitref03_Subsets.f k a0 (st + 1) = some want
theorem cubitlaw03_BitsSets.walk (P : cubitlaw03_BitsSets.Pure) (a0 : Int) (a1 : Int) (a2 : Int) (a3 : Int) (w : World) (w0 : (Lit.int .u64 a0).wf = true) (w1 : (Lit.int .i64 a1).wf = true) (w2 : (Lit.int .i64 a2).wf = true) (w3 : (Lit.int .i64 a3).wf = true) :
    Calls Tryd.prog 6 #[.int .u64 a0, .int .i64 a1, .int .i64 a2, .int .i64 a3] w fun e w' => e = .returned (.bool true) ∧ Below w.heap.size w w' := by
  obtain ⟨k, st, N, f, want, h1, h2, h3, h4, h5, h6, h7, h8⟩ := P a0 a1 a2 a3 w0 w1 w2 w3
  exact cubitlaw03_BitsSets.main (k := k) (a0 := a0) (a1 := a1) (a2 := a2) (a3 := a3) (st := st) (N := N) (f := f) (hs := h1) (want := want) (wI := w) (r := true) (h := h2) (htrue := rfl) (hwant := ⟨h3⟩) (hawake := h4) (hst := h5) (h1 := h6) (h2 := h7) (hsub := h8)
end Go.Proofs.YtoebcbhadcpcoaaDoor.PA
