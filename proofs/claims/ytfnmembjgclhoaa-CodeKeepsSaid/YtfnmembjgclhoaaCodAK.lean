/- Two rows of strings, two codes: alike. -/
import Derived.Test.YtfnmembjgclhoaaCodG
import Derived.BigQuiet
namespace Go.Proofs.Ytfnmembjgclhoaa.CD
open Go Go.RowKit
set_option linter.unusedVariables false
set_option linter.unusedSimpArgs false


set_option maxRecDepth 100000 in
set_option maxHeartbeats 2000000 in
theorem samestr_calls (a : Option Addr) (c : Nat) (ps : List Pau) (b : Option Addr) (d : Nat) (qs : List Pau) (w : World) (ha : Row w a c ps) (hb : Row w b d qs) (r : Bool) (hres : r = true ↔ ps = qs) :
    Calls Try.prog 48 #[(Value.slice a ps.length c), (Value.slice b qs.length d)] w fun e w' => e = .returned (.bool r) ∧ Grew w w' := by
  have hsm := ha.small
  have hsm2 := hb.small
  have HA := Lib.hid ha
  have HB := Lib.hid hb
  have HRES := Lib.hid hres
  have mixed := mixed
  clear ha hb hres
  by_cases hlen : ps.length = qs.length
  · obtain ⟨m, hm⟩ : ∃ m, m = ps.length := ⟨_, rfl⟩
    have hm2 : qs.length = m := by omega
    have hm1 : ps.length = m := hm.symm
    clear hm hlen
    rw [hm1] at hsm
    go_enter Try.func48, Try.ntmps48
    go_wp2
    go_loopw [5] (fun s wr => ∃ j : Nat, j ≤ m ∧ s = .int .i64 j ∧ (∀ i (h : i < ps.length) (h2 : i < qs.length), i < j → ps[i] = qs[i]) ∧ Grew w wr) (fun s _ => m - (intOf s).toNat)
    case atStart => exact ⟨0, Nat.zero_le _, rfl, fun i h h2 hi => absurd hi (Nat.not_lt_zero _), Grew.refl _⟩
    case round =>
      obtain ⟨j, hj, rfl, hall, hg⟩ := hrel
      have HALL := Lib.hid hall
      have HG := Lib.hid hg
      clear hall hg
      by_cases hlt : j < m
      · have hRA := HA.out.below HG.out.below
        have hRB := HB.out.below HG.out.below
        obtain ⟨b1, o1, hbl1, hidx1, hc0, hc1, hc2, hc3⟩ := hRA.at j (by omega)
        obtain ⟨b2, o2, hbl2, hidx2, hd0, hd1, hd2, hd3⟩ := hRB.at j (by omega)
        have HJ : Hid (ps[j] = qs[j] → ∀ i (h : i < ps.length) (h2 : i < qs.length), i < j + 1 → ps[i] = qs[i]) := Lib.hid fun h i hi hi2 hij => by
          by_cases e : i = j
          · subst e; exact h
          · exact HALL.out i hi hi2 (by omega)
        have HN : Hid (ps[j] ≠ qs[j] → r = false) := Lib.hid fun h => by
          cases hr : r
          · rfl
          · have e := HRES.out.1 hr
            subst e
            exact absurd rfl h
        clear hRA hRB HALL
        rw [hm1] at hidx1
        rw [hm2] at hidx2
        generalize ps[j] = p at hc0 hc1 hc2 hc3 HJ HN
        generalize qs[j] = q at hd0 hd1 hd2 hd3 HJ HN
        by_cases hpq : p = q
        · have HJ2 := Lib.hid (HJ.out hpq)
          subst hpq
          clear HJ HN
          go_wp2_with fail
          go_quiet (fail)
          go_wp2
          go_roundw
          case rel => exact ⟨j + 1, by omega, by go_num, HJ2.out, HG.out.drewN _⟩
          case measure => simp [intOf]; omega
        · have hr0 := HN.out hpq
          subst hr0
          obtain ⟨pn, px, pz, ph⟩ := p
          obtain ⟨qn, qx, qz, qh⟩ := q
          clear HJ HN
          simp only at hc0 hc1 hc2 hc3 hd0 hd1 hd2 hd3
          by_cases e0 : pn = qn
          · subst e0
            by_cases e1 : px = qx
            · subst e1
              by_cases e2 : pz = qz
              · subst e2
                have e3 : (ph == qh) = false := by
                  rw [beq_eq_false_iff_ne]; rintro rfl; exact hpq rfl
                clear hpq
                go_wp2_with fail
                go_quiet (fail)
                go_wp2
                go_ret
                exact ⟨rfl, HG.out.drewN _⟩
              · have e2' : ((pz : Int) == (qz : Int)) = false := by rw [beq_eq_false_iff_ne]; omega
                clear hpq e2
                go_wp2_with fail
                go_quiet (fail)
                go_wp2
                go_ret
                exact ⟨rfl, HG.out.drewN _⟩
            · have e1' : ((px : Int) == (qx : Int)) = false := by rw [beq_eq_false_iff_ne]; omega
              clear hpq e1
              go_wp2_with fail
              go_quiet (fail)
              go_wp2
              go_ret
              exact ⟨rfl, HG.out.drewN _⟩
          · have e0' : (pn == qn) = false := by rw [beq_eq_false_iff_ne]; exact e0
            clear hpq e0
            go_wp2_with fail
            go_quiet (fail)
            go_wp2
            go_ret
            exact ⟨rfl, HG.out.drewN _⟩
      · obtain rfl : j = m := by omega
        have hrt : r = true := HRES.out.2 (List.ext_getElem (by omega) fun i h h2 => HALL.out i h h2 (by omega))
        subst hrt
        go_wp2
        go_ret
        exact ⟨rfl, HG.out⟩
  · have hr0 : r = false := by
      cases hr : r
      · rfl
      · have e := HRES.out.1 hr
        subst e
        exact absurd rfl hlen
    subst hr0
    have hne : ((ps.length : Int) != (qs.length : Int)) = true := by simp; omega
    go_enter Try.func48, Try.ntmps48
    go_wp2
    go_ret
    exact ⟨rfl, Grew.refl _⟩
end Go.Proofs.Ytfnmembjgclhoaa.CD
