/- The document's functions over lists of strings. -/
import Derived.Test.YtfnmembjgclhoaaCodW
namespace Go.Proofs.Ytfnmembjgclhoaa.CD
open Go Go.RowKit
set_option linter.unusedVariables false
set_option linter.unusedSimpArgs false

/-- What the walk is told of one cell of a row. -/
theorem Row.cell {w : World} {a : Option Addr} {c : Nat} {ps : List Pau} (h : Row w a c ps) (j : Nat) (hj : j < ps.length) : WF ps[j] := h.wf _ (List.getElem_mem hj)
theorem Row.small {w : World} {a : Option Addr} {c : Nat} {ps : List Pau} (h : Row w a c ps) : (ps.length : Int) ≤ 4398046511104 := by
  have := h.sm; omega

set_option maxRecDepth 100000 in
set_option maxHeartbeats 1000000 in
theorem strings_calls (a : Option Addr) (c : Nat) (l : List Pau) (n : Int) (w : World) (hr : Row w a c l) (r : Bool) (hres : r = true ↔ ∀ p ∈ l, Fit p n) :
    Calls Try.prog 31 #[(Value.slice a l.length c), .int .i64 n] w fun e w' => e = .returned (.bool r) ∧ Below w.heap.size w w' := by
  have hsm := hr.small
  have HR := Lib.hid hr
  have HRES := Lib.hid hres
  clear hr hres
  go_enter Try.func31, Try.ntmps31
  go_wp2
  go_loopw [5] (fun s wr => ∃ j : Nat, j ≤ l.length ∧ s = .int .i64 j ∧ (∀ i (h : i < l.length), i < j → Fit l[i] n) ∧ Below w.heap.size w wr) (fun s _ => l.length - (intOf s).toNat)
  case atStart => exact ⟨0, Nat.zero_le _, rfl, fun i h hi => absurd hi (Nat.not_lt_zero _), Below.refl _ _⟩
  case round =>
    obtain ⟨j, hj, rfl, hall, hb⟩ := hrel
    have HALL := Lib.hid hall
    have HB := Lib.hid hb
    clear hall hb
    by_cases hlt : j < l.length
    · have hR := HR.out.below HB.out
      obtain ⟨b, o, hbl, hidx, hc0, hc1, hc2, hc3⟩ := hR.at j hlt
      have hwf := HR.out.cell j hlt
      have hmem : l[j] ∈ l := List.getElem_mem hlt
      have HJ : ∀ h : Fit l[j] n, ∀ i (h : i < l.length), i < j + 1 → Fit l[i] n := fun h i hi hij => by
        by_cases e : i = j
        · subst e; exact h
        · exact HALL.out i hi (by omega)
      have HF : Hid (r = true → Fit l[j] n) := Lib.hid fun h => HRES.out.1 h _ hmem
      have HJJ := Lib.hid HJ
      clear hmem HJ hR
      generalize l[j] = p at *
      by_cases hok : Ok p
      · have hck := fun W => refcheck_ok p hwf hok W
        by_cases hn : p.n = n
        · by_cases hph : p.ph % 2 = 0
          · have hfit := Lib.hid (HJJ.out ⟨hok, hn, hph⟩)
            have h0 := hok.p0
            obtain ⟨m, x, z, ph⟩ := p
            simp only at hc0 hc1 hc2 hc3 hn hph h0
            subst hn
            clear hok hwf HF HJJ
            go_wp2_with (go_at_call 23; refine (hck _).mono ?_; rintro e w' ⟨rfl, hb⟩; obtain ⟨hbc, hbf⟩ := bcell hb; have HB2 := Lib.hid hb; clear hb)
            go_roundw
            case rel => exact ⟨j + 1, by omega, by go_num, hfit.out, HB.out.trans (HB2.out.mono HB.out.size)⟩
            case measure => simp [intOf]; omega
          · have hr0 : r = false := by cases r; rfl; exact absurd (HF.out rfl).2.2 hph
            have ht : (p.ph % 2 != 0) = true := by simpa using hph
            have h0 := hok.p0
            obtain ⟨m, x, z, ph⟩ := p
            simp only at hc0 hc1 hc2 hc3 hn ht h0
            subst hn hr0
            clear hok hwf HF HJJ hph
            go_wp2_with (go_at_call 23; refine (hck _).mono ?_; rintro e w' ⟨rfl, hb⟩; obtain ⟨hbc, hbf⟩ := bcell hb; have HB2 := Lib.hid hb; clear hb)
            go_ret
            exact ⟨rfl, HB.out.trans (HB2.out.mono HB.out.size)⟩
        · have hr0 : r = false := by cases r; rfl; exact absurd (HF.out rfl).2.1 hn
          have ht : (p.n != n) = true := by simpa using hn
          obtain ⟨m, x, z, ph⟩ := p
          simp only at hc0 hc1 hc2 hc3 ht
          subst hr0
          clear hok hwf HF HJJ hn
          go_wp2_with (go_at_call 23; refine (hck _).mono ?_; rintro e w' ⟨rfl, hb⟩; obtain ⟨hbc, hbf⟩ := bcell hb; have HB2 := Lib.hid hb; clear hb)
          go_ret
          exact ⟨rfl, HB.out.trans (HB2.out.mono HB.out.size)⟩
      · have hck := fun W => refcheck_bad p hwf hok W
        have hr0 : r = false := by cases r; rfl; exact absurd (HF.out rfl).1 hok
        obtain ⟨m, x, z, ph⟩ := p
        simp only at hc0 hc1 hc2 hc3
        subst hr0
        clear hok hwf HF HJJ
        go_wp2_with (go_at_call 23; refine (hck _).mono ?_; rintro e w' ⟨rfl, hb⟩; obtain ⟨hbc, hbf⟩ := bcell hb; have HB2 := Lib.hid hb; clear hb)
        go_ret
        exact ⟨rfl, HB.out.trans (HB2.out.mono HB.out.size)⟩
    · have hr1 : r = true := HRES.out.2 fun p hp => by
        obtain ⟨i, hi, rfl⟩ := List.mem_iff_getElem.1 hp
        exact HALL.out i hi (by omega)
      subst hr1
      go_wp2
      go_ret
      exact ⟨rfl, HB.out⟩

set_option maxRecDepth 100000 in
set_option maxHeartbeats 1000000 in
theorem all_calls (a : Option Addr) (c : Nat) (l : List Pau) (a' : Option Addr) (c' : Nat) (l' : List Pau) (w : World) (hr : Row w a c l) (hr' : Row w a' c' l') (r : Bool) (hres : r = true ↔ ∀ p ∈ l, ∀ q ∈ l', apt p q = false) :
    Calls Try.prog 32 #[(Value.slice a l.length c), (Value.slice a' l'.length c')] w fun e w' => e = .returned (.bool r) ∧ Below w.heap.size w w' := by
  have hsm := hr.small
  have hsm' := hr'.small
  have HR := Lib.hid hr
  have HR' := Lib.hid hr'
  have HRES := Lib.hid hres
  have mixed := mixed
  clear hr hr' hres
  go_enter Try.func32, Try.ntmps32
  go_wp2
  go_loopw [5] (fun s wr => ∃ j : Nat, j ≤ l.length ∧ s = .int .i64 j ∧ (∀ i (h : i < l.length), i < j → ∀ q ∈ l', apt l[i] q = false) ∧ Below w.heap.size w wr) (fun s _ => l.length - (intOf s).toNat)
  case atStart => exact ⟨0, Nat.zero_le _, rfl, fun i h hi => absurd hi (Nat.not_lt_zero _), Below.refl _ _⟩
  case round =>
    obtain ⟨j, hj, rfl, hall, hb⟩ := hrel
    have HALL := Lib.hid hall
    have HB := Lib.hid hb
    clear hall hb
    by_cases hlt : j < l.length
    · obtain ⟨wo, rfl⟩ : ∃ wo : World, wo = wr := ⟨_, rfl⟩
      go_wp2
      go_loopw [6] (fun s wr2 => ∃ k : Nat, k ≤ l'.length ∧ s = .int .i64 k ∧ (∀ i (h : i < l'.length), i < k → apt l[j] l'[i] = false) ∧ Below w.heap.size w wr2) (fun s _ => l'.length - (intOf s).toNat)
      case atStart => exact ⟨0, Nat.zero_le _, rfl, fun i h hi => absurd hi (Nat.not_lt_zero _), HB.out⟩
      case round =>
        obtain ⟨k, hk, rfl, hin, hb⟩ := hrel
        have HIN := Lib.hid hin
        have HB2 := Lib.hid hb
        clear hin hb
        by_cases hlt' : k < l'.length
        · have hR := HR.out.below HB2.out
          have hR' := HR'.out.below HB2.out
          obtain ⟨b, o, hbl, hidx, hc0, hc1, hc2, hc3⟩ := hR.at j hlt
          obtain ⟨b', o', hbl', hidx', hd0, hd1, hd2, hd3⟩ := hR'.at k hlt'
          have hwf := HR.out.cell j hlt
          have hwf' := HR'.out.cell k hlt'
          have hcc := fun W => commute_calls l[j] l'[k] hwf hwf' W
          have HG := fun n os (b o : Nat) h => grown_old (w := wr) n os b o h
          cases hA : apt l[j] l'[k] with
          | false =>
            rw [hA] at hcc
            have HJJ : Hid (∀ i (h : i < l'.length), i < k + 1 → apt l[j] l'[i] = false) := Lib.hid fun i hi hik => by
              by_cases e : i = k
              · subst e; exact hA
              · exact HIN.out i hi (by omega)
            clear hA hwf hwf' hR hR'
            generalize l[j] = p at *
            generalize l'[k] = p' at *
            go_wp2_with fail
            go_quiet_grown (first | (go_at_call 33; with_reducible exact Calls.grown_of (hcc _)))
            go_wp2
            go_roundw
            case rel => exact ⟨k + 1, by omega, by go_num, HJJ.out, HB2.out.trans ((Grew.below ⟨_, _, rfl⟩).mono HB2.out.size)⟩
            case measure => simp [intOf]; omega
          | true =>
            rw [hA] at hcc
            have hr0 : r = false := by
              cases r
              · rfl
              · have := HRES.out.1 rfl l[j] (List.getElem_mem hlt) l'[k] (List.getElem_mem hlt')
                rw [hA] at this; cases this
            subst hr0
            clear hA hwf hwf' hR hR'
            generalize l[j] = p at *
            generalize l'[k] = p' at *
            go_wp2_with fail
            go_quiet_grown (first | (go_at_call 33; with_reducible exact Calls.grown_of (hcc _)))
            go_wp2
            go_ret
            exact ⟨rfl, HB2.out.trans ((Grew.below ⟨_, _, rfl⟩).mono HB2.out.size)⟩
        · have HJJ : Hid (∀ i (h : i < l.length), i < j + 1 → ∀ q ∈ l', apt l[i] q = false) := Lib.hid fun i hi hij q hq => by
            by_cases e : i = j
            · subst e
              obtain ⟨m, hm, rfl⟩ := List.mem_iff_getElem.1 hq
              exact HIN.out m hm (by omega)
            · exact HALL.out i hi (by omega) q hq
          go_wp2
          go_roundw
          case rel => exact ⟨j + 1, by omega, by go_num, HJJ.out, HB2.out⟩
          case measure => simp [intOf]; omega
    · have hr1 : r = true := HRES.out.2 fun p hp q hq => by
        obtain ⟨i, hi, rfl⟩ := List.mem_iff_getElem.1 hp
        exact HALL.out i hi (by omega) q hq
      subst hr1
      go_wp2
      go_ret
      exact ⟨rfl, HB.out⟩
end Go.Proofs.Ytfnmembjgclhoaa.CD
