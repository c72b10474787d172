/- cubitref23.free, walked. -/
import Derived.Test.YtfnmembjgclhoaaCodJ
import Derived.Laws.OwnMore
import Derived.BigRegion
namespace Go.Proofs.Ytfnmembjgclhoaa.CD
open Go Go.RowKit
set_option linter.unusedVariables false
set_option linter.unusedSimpArgs false

structure RowsP (wr : World) (g : Nat) (L : List Pau) : Prop where
  at_ : ∀ (k : Nat) (h : k < L.length), Cells4 wr g (k * 4) L[k]
  free : ∀ i, wr.frozen? ⟨g, i, none⟩ = false
  lt : g < wr.heap.size
theorem RowsP.below {wr w' : World} {g B : Nat} {L : List Pau} (h : RowsP wr g L) (hB : g < B) (hb : Below B wr w') : RowsP w' g L :=
  ⟨fun k hk => (h.at_ k hk).below hB hb, fun i => (hb.frozen (p := ⟨g, i, none⟩) hB).trans (h.free i), Nat.lt_of_lt_of_le h.lt hb.size⟩
theorem RowsP.drew {wr : World} {g : Nat} {L : List Pau} (h : RowsP wr g L) : RowsP wr.drew g L := h.below h.lt ⟨rfl, rfl, rfl, Nat.le_refl _, fun _ _ => rfl⟩
/-- The four cells of one string. -/
def set4 (w : World) (g o : Nat) (p : Pau) : World := (((w.setCell ⟨g, o, none⟩ (.int .i64 p.n)).setCell ⟨g, o + 1, none⟩ (.int .u64 p.x)).setCell ⟨g, o + 2, none⟩ (.int .u64 p.z)).setCell ⟨g, o + 3, none⟩ (.int .i64 p.ph)
theorem cell_ne {w : World} {a b : Addr} {v : Value} (h : a ≠ b) : (w.setCell a v).cell? b = w.cell? b := World.cell?_setCell_other w a b v h
theorem RowsP.store {wr : World} {g : Nat} {L : List Pau} (h : RowsP wr g L) {k : Nat} (hk : k < L.length) (p : Pau) : RowsP (set4 wr g (k * 4) p) g (L.set k p) := by
  refine ⟨fun m hm => ?_, fun i => by unfold set4; simp only [World.frozen?_setCell]; exact h.free i, by unfold set4; simpa using h.lt⟩
  have hm' : m < L.length := by simpa using hm
  obtain ⟨c0, c1, c2, c3⟩ := h.at_ m hm'
  by_cases e : k = m
  · subst e
    simp only [List.getElem_set_self]
    unfold set4
    refine ⟨?_, ?_, ?_, ?_⟩
    · rw [cell_ne (by simp), cell_ne (by simp), cell_ne (by simp), World.cell?_setCell_same' _ _ _ (by rw [c0]; rfl)]
    · rw [cell_ne (by simp), cell_ne (by simp), World.cell?_setCell_same' _ _ _ (by rw [cell_ne (by simp), c1]; rfl)]
    · rw [cell_ne (by simp), World.cell?_setCell_same' _ _ _ (by rw [cell_ne (by simp), cell_ne (by simp), c2]; rfl)]
    · rw [World.cell?_setCell_same' _ _ _ (by rw [cell_ne (by simp), cell_ne (by simp), cell_ne (by simp), c3]; rfl)]
  · simp only [List.getElem_set_ne e]
    unfold set4
    refine ⟨?_, ?_, ?_, ?_⟩
    all_goals rw [cell_ne (by simp <;> omega), cell_ne (by simp <;> omega), cell_ne (by simp <;> omega), cell_ne (by simp <;> omega)]; assumption
theorem RowsP.setX {wr : World} {g : Nat} {L : List Pau} (h : RowsP wr g L) {k : Nat} (hk : k < L.length) (v : Nat) : RowsP (wr.setCell ⟨g, k * 4 + 1, none⟩ (.int .u64 v)) g (L.set k { L[k] with x := v }) := by
  refine ⟨fun m hm => ?_, fun i => by rw [World.frozen?_setCell]; exact h.free i, by simpa using h.lt⟩
  have hm' : m < L.length := by simpa using hm
  obtain ⟨c0, c1, c2, c3⟩ := h.at_ m hm'
  by_cases e : k = m
  · subst e
    simp only [List.getElem_set_self]
    exact ⟨by rw [cell_ne (by simp)]; exact c0, by rw [World.cell?_setCell_same' _ _ _ (by rw [c1]; rfl)], by rw [cell_ne (by simp)]; exact c2, by rw [cell_ne (by simp)]; exact c3⟩
  · simp only [List.getElem_set_ne e]
    refine ⟨?_, ?_, ?_, ?_⟩
    all_goals rw [cell_ne (by simp <;> omega)]; assumption
theorem RowsP.setZ {wr : World} {g : Nat} {L : List Pau} (h : RowsP wr g L) {k : Nat} (hk : k < L.length) (v : Nat) : RowsP (wr.setCell ⟨g, k * 4 + 2, none⟩ (.int .u64 v)) g (L.set k { L[k] with z := v }) := by
  refine ⟨fun m hm => ?_, fun i => by rw [World.frozen?_setCell]; exact h.free i, by simpa using h.lt⟩
  have hm' : m < L.length := by simpa using hm
  obtain ⟨c0, c1, c2, c3⟩ := h.at_ m hm'
  by_cases e : k = m
  · subst e
    simp only [List.getElem_set_self]
    exact ⟨by rw [cell_ne (by simp)]; exact c0, by rw [cell_ne (by simp)]; exact c1, by rw [World.cell?_setCell_same' _ _ _ (by rw [c2]; rfl)], by rw [cell_ne (by simp)]; exact c3⟩
  · simp only [List.getElem_set_ne e]
    refine ⟨?_, ?_, ?_, ?_⟩
    all_goals rw [cell_ne (by simp <;> omega)]; assumption
theorem Below.set4 {B : Nat} {w wr : World} (h : Below B w wr) {g : Nat} (hg : B ≤ g) (o : Nat) (p : Pau) : Below B w (set4 wr g o p) :=
  (((h.setCell (show B ≤ (⟨g, o, none⟩ : Addr).block from hg) _).setCell (show B ≤ (⟨g, o + 1, none⟩ : Addr).block from hg) _).setCell (show B ≤ (⟨g, o + 2, none⟩ : Addr).block from hg) _).setCell (show B ≤ (⟨g, o + 3, none⟩ : Addr).block from hg) _

/-! a list of strings as cells -/
def flat (ps : List Pau) : List Value := ps.flatMap fun p => [.int .i64 p.n, .int .u64 p.x, .int .u64 p.z, .int .i64 p.ph]
theorem flat_len (ps : List Pau) : (flat ps).length = ps.length * 4 := by
  induction ps with
  | nil => rfl
  | cons p ps ih => simp [flat] at ih ⊢; omega
theorem flat_get : ∀ (ps : List Pau) (k : Nat) (h : k < ps.length), (flat ps)[k * 4]? = some (.int .i64 ps[k].n) ∧ (flat ps)[k * 4 + 1]? = some (.int .u64 ps[k].x) ∧ (flat ps)[k * 4 + 2]? = some (.int .u64 ps[k].z) ∧ (flat ps)[k * 4 + 3]? = some (.int .i64 ps[k].ph)
  | p :: ps, 0, _ => ⟨rfl, rfl, rfl, rfl⟩
  | p :: ps, k + 1, h => by
    have ih := flat_get ps k (by simpa using h)
    have e : ∀ i, (flat (p :: ps))[i + 4]? = (flat ps)[i]? := fun i => rfl
    have e0 : (k + 1) * 4 = k * 4 + 4 := by omega
    have e1 : k * 4 + 4 + 1 = k * 4 + 1 + 4 := by omega
    have e2 : k * 4 + 4 + 2 = k * 4 + 2 + 4 := by omega
    have e3 : k * 4 + 4 + 3 = k * 4 + 3 + 4 := by omega
    rw [e0, e1, e2, e3, e, e, e, e]
    exact ih
theorem flat_one : ∀ (ps : List Pau), ∀ u ∈ flat ps, u.oneCell' = true := by
  intro ps u hu
  obtain ⟨p, _, h⟩ := List.mem_flatMap.1 hu
  simp at h
  rcases h with rfl | rfl | rfl | rfl <;> rfl
theorem Row.news {w : World} {b off : Nat} {ps : List Pau} (h : ∀ (j : Nat) (h : j < ps.length), Cells4 w b (off + j * 4) ps[j]) : ∀ j u, (flat ps)[j]? = some u → w.cell? ((⟨b, off, none⟩ : Addr).add j) = some u := by
  intro j u hu
  have hadd : (⟨b, off, none⟩ : Addr).add j = ⟨b, off + j, none⟩ := by unfold Addr.add; split <;> simp_all
  rw [hadd]
  have hl : j < ps.length * 4 := by rw [← flat_len]; exact (List.getElem?_eq_some_iff.1 hu).1
  obtain ⟨k, i, rfl, hi⟩ : ∃ k i, j = k * 4 + i ∧ i < 4 := ⟨j / 4, j % 4, by omega, by omega⟩
  have hk : k < ps.length := by omega
  obtain ⟨f0, f1, f2, f3⟩ := flat_get ps k hk
  obtain ⟨c0, c1, c2, c3⟩ := h k hk
  have : i = 0 ∨ i = 1 ∨ i = 2 ∨ i = 3 := by omega
  rcases this with rfl | rfl | rfl | rfl
  · rw [Nat.add_zero] at hu; rw [f0] at hu; rw [← Option.some.inj hu]; simpa using c0
  · rw [f1] at hu; rw [← Option.some.inj hu, ← Nat.add_assoc]; exact c1
  · rw [f2] at hu; rw [← Option.some.inj hu, ← Nat.add_assoc]; exact c2
  · rw [f3] at hu; rw [← Option.some.inj hu, ← Nat.add_assoc]; exact c3
theorem RowsP.of_own {w : World} {base g cap n : Nat} {ps : List Pau} (hn : n = ps.length) (h : w.ownsRow base 27 4 (.slice (some ⟨g, 0, none⟩) n cap) n (flat ps)) : RowsP w g ps := by
  refine ⟨fun k hk => ?_, fun i => h.frozenAt i, (h.lt g rfl).2⟩
  obtain ⟨f0, f1, f2, f3⟩ := flat_get ps k hk
  exact ⟨by rw [h.cellAt _ (by omega), f0], by rw [h.cellAt _ (by omega), f1], by rw [h.cellAt _ (by omega), f2], by rw [h.cellAt _ (by omega), f3]⟩
theorem info27 : (Try.prog.info? 27).map (fun i => (i.zero, i.size, i.bytes)) = some (some (.agg #[.int .i64 0, .int .u64 0, .int .u64 0, .int .i64 0]), 4, 32) := by kernel_rfl

theorem part_calls (p : Pau) (b : Nat) (hw : WF p) (hb : b < 128) (w : World) : Calls Try.prog 52 #[(Value.agg #[.int .i64 p.n, .int .u64 p.x, .int .u64 p.z, .int .i64 p.ph]), .int .i64 b] w fun e w' => e = .returned (.int .u64 (bI (pbit p b))) ∧ Below w.heap.size w w' := by
  by_cases h : b < 64
  · have : pbit p b = p.x.testBit b := by simp [pbit, bitOf, h, xz]
    rw [this]; exact part_lo p b hw h w
  · have : pbit p b = p.z.testBit (b - 64) := by simp [pbit, bitOf, h, xz]
    rw [this, show (b : Int) = 64 + ((b - 64 : Nat) : Int) by omega]
    exact part_hi p (b - 64) hw (by omega) w

set_option maxRecDepth 100000 in
set_option maxHeartbeats 1000000 in
theorem free_none (a : Option Addr) (c : Nat) (w : World) :
    Calls Try.prog 34 #[.slice a 0 c] w fun e w' => e = .returned (.bool true) ∧ Below w.heap.size w w' := by
  cases a with
  | none =>
    go_enter Try.func34, Try.ntmps34
    go_wp2
    refine wp_loop_rounds 1 ?_
    rw [rounds_succ]
    go_wp2
    go_ret
    exact ⟨rfl, below1 _ _⟩
  | some ad =>
    go_enter Try.func34, Try.ntmps34
    go_wp2
    refine wp_loop_rounds 1 ?_
    rw [rounds_succ]
    go_wp2
    go_ret
    exact ⟨rfl, below1 _ _⟩

/-- What the copy holds. -/
theorem copied_of {w w1 : World} {v' : Value} {n : Nat} {l : List Pau} (hn : n = l.length) (h0 : 0 < n) (hown : w1.ownsRow w.heap.size 27 4 v' n (flat l))
    (hg : (w.alloc (.cells #[] 27)).grownBy w1 (Value.slice (some ⟨w.heap.size, 0, none⟩) 0 0).ownBlock) :
    ∃ g cap, v' = .slice (some ⟨g, 0, none⟩) n cap ∧ RowsP w1 g l ∧ w.heap.size ≤ g ∧ Below w.heap.size w w1 := by
  have hv : ∃ g cap, v' = .slice (some ⟨g, 0, none⟩) n cap ∧ w.heap.size ≤ g := by
    rcases hown.2 with ⟨_, e⟩ | ⟨g, cap, cur, e, hb, _⟩
    · omega
    · exact ⟨g, cap, e, hb⟩
  obtain ⟨g, cap, rfl, hgb⟩ := hv
  exact ⟨g, cap, rfl, RowsP.of_own hn hown, hgb, (below1 w (.cells #[] 27)).trans ⟨hg.os, hg.tape, hg.output, hg.size, fun i hi => hg.block i (by simp; omega) (by simp [Value.ownBlock]; omega)⟩⟩

/-- Where the search stands: nothing found before k, or found at a. -/
def Found (L : List Pau) (bit done k : Nat) (s : Value) : Prop :=
  (s = .int .i64 (-1) ∧ ∀ (j : Nat) (h : j < L.length), done ≤ j → j < k → pbit L[j] bit = false) ∨ ∃ (a : Nat) (h : a < L.length), s = .int .i64 a ∧ done ≤ a ∧ pbit L[a] bit = true

set_option maxRecDepth 100000 in
set_option maxHeartbeats 16000000 in
theorem free_some (b off c : Nat) (l : List Pau) (w : World) (hr : Row w (some ⟨b, off, none⟩) c l) (h0 : 0 < l.length) (r : Bool) (hres : r = true ↔ Ind (l.map xz)) :
    Calls Try.prog 34 #[(Value.slice (some ⟨b, off, none⟩) l.length c)] w fun e w' => e = .returned (.bool r) ∧ Below w.heap.size w w' := by
  obtain ⟨i0, hi, hz0, hz1, hz2⟩ := info_parts info27
  have hr1 := hr.below (below1 w (.cells #[] 27))
  have hc : ∀ (j : Nat) (h : j < l.length), Cells4 (w.alloc (.cells #[] 27)) b (off + j * 4) l[j] := by
    rcases hr1.at_ with e | ⟨b', off', e, hc⟩
    · rw [e] at h0; simp at h0
    · simp at e
      rw [e.1, e.2]; exact hc
  have hs := hr.len
  have hs2 := hr.sm
  have HST := Lib.hid (GInv.start hr.wf)
  have HRES := Lib.hid hres
  have HC := Lib.hid hc
  clear hr hres hr1 hc
  go_enter Try.func34, Try.ntmps34
  generalize hn : l.length = n at h0 hs hs2
  have HN := Lib.hid hn
  clear hn
  go_wp2_with (at_builtin; refine wpList_append_own _ rfl _ _ 22 rfl w.heap.size 27 i0 _ 4 32 Try.underlying22 hi hz0 hz1 hz2 rfl (by decide) _ 0 [] rfl (World.ownsRow_lit (e := 27) (size := 4) w #[] 0 (Nat.le_refl _) (by unfold maxLen; omega) rfl) ⟨b, off, none⟩ n c (flat l) rfl (by rw [flat_len, HN.out]) (Row.news HC.out) (flat_one l) ?c3 ?c4 ?c5 ?_)
  case c3 => unfold maxLen; omega
  case c4 => omega
  case c5 => simp
  intro v' w1 hown hgr _
  have HCOP := Lib.hid (copied_of HN.out.symm h0 hown hgr)
  clear hown hgr hi hz0 hz1 hz2
  obtain ⟨g, cap, rfl, hrows, hgb, hbel⟩ := HCOP.out
  have HROW := Lib.hid hrows
  have HB := Lib.hid hbel
  clear hrows hbel HCOP
  go_wp2
  go_loopw [4, 5] (fun d s wr => ∃ (bit done : Nat) (L : List Pau), bit ≤ 128 ∧ s = .int .i64 bit ∧ d = .int .i64 done ∧ GInv l bit done L ∧ RowsP wr g L ∧ Below w.heap.size w wr) (fun _ s _ => 128 - (intOf s).toNat)
  case atStart => exact ⟨0, 0, l, by omega, rfl, rfl, HST.out, HROW.out, HB.out⟩
  case round =>
    clear HST HROW HB HC
    obtain ⟨bit, done, L, hbit, rfl, rfl, hinv, hrows, hb⟩ := hrel
    have HI := Lib.hid hinv
    have HROW := Lib.hid hrows
    have HB := Lib.hid hb
    have hlen := hinv.len
    have hle := hinv.le
    rw [HN.out] at hlen
    rw [hlen] at hle
    have HLEN := Lib.hid hlen
    clear hinv hrows hb hlen
    by_cases hlt : bit < 128 ∧ done < n
    · obtain ⟨hlt1, hlt2⟩ := hlt
      obtain ⟨wo, rfl⟩ : ∃ wo : World, wo = wr := ⟨_, rfl⟩
      go_wp2
      go_loopw [6, 7] (fun s6 s7 wr => ∃ k : Nat, done ≤ k ∧ k ≤ n ∧ s7 = .int .i64 k ∧ Found L bit done k s6 ∧ RowsP wr g L ∧ Below w.heap.size w wr) (fun _ s _ => n - (intOf s).toNat)
      case atStart => exact ⟨done, Nat.le_refl _, hle, rfl, .inl ⟨rfl, fun j _ h1 h2 => absurd h2 (by omega)⟩, HROW.out, HB.out⟩
      case round =>
        clear HROW HB
        obtain ⟨k, hdk, hk, rfl, hf, hrows, hb⟩ := hrel
        have HROW := Lib.hid hrows
        have HB := Lib.hid hb
        clear hrows hb
        by_cases hltk : k < n
        · rcases hf with ⟨rfl, hno⟩ | ⟨at_, hat, rfl, hda, hbt⟩
          · have HNO := Lib.hid hno
            have hkL : k < L.length := by have := HLEN.out; omega
            obtain ⟨c0, c1, c2, c3⟩ := HROW.out.at_ k hkL
            have hgl := HROW.out.lt
            have hpc := fun W => part_calls L[k] bit (HI.out.wf _ (List.getElem_mem hkL)) hlt1 W
            cases hA : pbit L[k] bit with
            | true =>
              rw [hA] at hpc
              have HF : Hid (Found L bit done (k + 1) (.int .i64 k)) := Lib.hid (.inr ⟨k, hkL, rfl, hdk, hA⟩)
              clear hA hno
              generalize L[k] = p at *
              go_wp2_with (go_at_call 52; refine (hpc _).mono ?_; rintro e w' ⟨rfl, hb⟩; obtain ⟨hbc, hbf⟩ := bcell hb; have HB2 := Lib.hid hb; clear hb)
              go_roundw
              case rel => exact ⟨k + 1, by omega, by omega, rfl, HF.out, HROW.out.below hgl HB2.out, HB.out.trans (HB2.out.mono HB.out.size)⟩
              case measure => simp [intOf]; omega
            | false =>
              rw [hA] at hpc
              have HF : Hid (Found L bit done (k + 1) (.int .i64 (-1))) := Lib.hid (.inl ⟨rfl, fun j h1 h2 h3 => by
                by_cases e : j = k
                · subst e; exact hA
                · exact HNO.out j h1 h2 (by omega)⟩)
              clear hA hno
              generalize L[k] = p at *
              go_wp2_with (go_at_call 52; refine (hpc _).mono ?_; rintro e w' ⟨rfl, hb⟩; obtain ⟨hbc, hbf⟩ := bcell hb; have HB2 := Lib.hid hb; clear hb)
              go_roundw
              case rel => exact ⟨k + 1, by omega, by omega, rfl, HF.out, HROW.out.below hgl HB2.out, HB.out.trans (HB2.out.mono HB.out.size)⟩
              case measure => simp [intOf]; omega
          · have HF : Hid (Found L bit done (k + 1) (.int .i64 at_)) := Lib.hid (.inr ⟨at_, hat, rfl, hda, hbt⟩)
            clear hbt
            go_wp2
            go_roundw
            case rel => exact ⟨k + 1, by omega, by omega, rfl, HF.out, HROW.out, HB.out⟩
            case measure => simp [intOf]; omega
        · obtain rfl : k = n := by omega
          clear hltk hk
          rcases hf with ⟨rfl, hno⟩ | ⟨at_, hat, rfl, hda, hbt⟩
          · have HG : Hid (GInv l (bit + 1) done L) := Lib.hid (HI.out.skip fun j hj hd => hno j hj hd (by have := HLEN.out; omega))
            clear hno
            go_wp2
            go_roundw
            case rel => exact ⟨bit + 1, done, L, by omega, rfl, rfl, HG.out, HROW.out, HB.out⟩
            case measure => simp [intOf]; omega
          · have hdl : done < L.length := by have := HLEN.out; omega
            have hatn : at_ < k := by have := HLEN.out; omega
            have HAT := Lib.hid hat
            have HDL := Lib.hid hdl
            have HSW : Hid _ := Lib.hid (HI.out.step hat hda hbt hdl L[at_] rfl)
            obtain ⟨c0, c1, c2, c3⟩ := HROW.out.at_ at_ hat
            obtain ⟨d0, d1, d2, d3⟩ := HROW.out.at_ done hdl
            have hgl := HROW.out.lt
            have hfr := HROW.out.free
            have HS2 : Hid (RowsP (set4 (set4 wr g (at_ * 4) L[done]) g (done * 4) L[at_]) g (swapped L at_ done hat hdl)) := Lib.hid ((HROW.out.store hat L[done]).store (by simpa using hdl) L[at_])
            clear hbt
            generalize hp : L[done] = p at *
            generalize hq : L[at_] = q at *
            have HP := Lib.hid hp
            have HQ := Lib.hid hq
            clear hp hq
            have hcd : (at_ : Int) < (k : Int) := by omega
            have hcd2 : (done : Int) < (k : Int) := by omega
            by_cases hsame : at_ = done
            · subst hsame
              obtain rfl : p = q := by rw [← HP.out, ← HQ.out]
              go_wp2_with fail
              go_region
              obtain ⟨w2, hw2⟩ : ∃ w2, w2 = (set4 (set4 wr g (at_ * 4) p) g (at_ * 4) p).drew := ⟨_, rfl⟩
              have HR2 : Hid (RowsP w2 g (swapped L at_ at_ hat hdl)) := Lib.hid (hw2 ▸ HS2.out.drew)
              have HB2 : Hid (Below w.heap.size w w2) := Lib.hid (hw2 ▸ (Below.set4 (Below.set4 HB.out hgb _ _) hgb _ _).drew)
              unfold set4 at hw2
              rw [← hw2]
              clear hw2 HS2 HROW HB c0 c1 c2 c3 d0 d1 d2 d3 hfr hgl
              go_wp2
              go_loopw [8] (fun s wr => ∃ k8 : Nat, at_ < k8 ∧ k8 ≤ k ∧ s = .int .i64 k8 ∧ RowsP wr g (swept (swapped L at_ at_ hat hdl) p at_ k8 bit) ∧ Below w.heap.size w wr) (fun s _ => k - (intOf s).toNat)
              case atStart => exact ⟨at_ + 1, by omega, by omega, by go_num, by rw [swept_start]; exact HR2.out, HB2.out⟩
              case round =>
                clear HR2 HB2
                obtain ⟨k8, hdk8, hk8, rfl, hrows, hb⟩ := hrel
                have HROW := Lib.hid hrows
                have HB := Lib.hid hb
                clear hrows hb
                have HSL : Hid ((swapped L at_ at_ hat hdl).length = k) := Lib.hid (by rw [swapped_len, HLEN.out])
                have HSD : Hid (∀ h, (swapped L at_ at_ hat hdl)[at_]'h = p) := Lib.hid (fun h => by rw [swapped_at, if_pos rfl]; exact HQ.out)
                have HSW2 : Hid (∀ p ∈ swapped L at_ at_ hat hdl, WF p) := Lib.hid (fun p hp => HI.out.wf p ((List.set_set_perm hat hdl).mem_iff.1 hp))
                have HWQ : Hid (WF p) := Lib.hid (by rw [← HQ.out]; exact HI.out.wf _ (List.getElem_mem _))
                generalize hS : swapped L at_ at_ hat hdl = S at *
                by_cases hlt8 : k8 < k
                · have hkS : k8 < S.length := by have := HSL.out; omega
                  have hdS : at_ < S.length := by have := HSL.out; omega
                  have hkW : k8 < (swept S p at_ k8 bit).length := by rw [swept_len]; exact hkS
                  have hdW : at_ < (swept S p at_ k8 bit).length := by rw [swept_len]; exact hdS
                  have hpc := fun W => part_calls S[k8] bit (HSW2.out _ (List.getElem_mem hkS)) hlt1 W
                  obtain ⟨ux, uz, _, _⟩ := HSW2.out _ (List.getElem_mem hkS)
                  have hgk : (swept S p at_ k8 bit)[k8] = S[k8] := swept_get hkS
                  have hgd : (swept S p at_ k8 bit)[at_] = p := (swept_low (Nat.le_refl _) hdS).trans (HSD.out hdS)
                  obtain ⟨c0, c1, c2, c3⟩ := HROW.out.at_ k8 hkW
                  rw [hgk] at c0 c1 c2 c3
                  have hgl := HROW.out.lt
                  cases hA : pbit S[k8] bit with
                  | true =>
                    rw [hA] at hpc
                    have HST : Hid ((swept S p at_ k8 bit).set k8 (padd S[k8] p) = swept S p at_ (k8 + 1) bit) := Lib.hid (swept_step hdk8 hkS hA)
                    have hXX := xor_eq ux HWQ.out.x
                    have hZZ := xor_eq uz HWQ.out.z
                    clear hA ux uz
                    have HGK := Lib.hid hgk
                    have HGD := Lib.hid hgd
                    generalize swept S p at_ k8 bit = T at *
                    generalize S[k8] = y at *
                    clear hgk hgd
                    go_wp2_with (go_at_call 52; refine (hpc _).mono ?_; rintro e w' ⟨rfl, hb⟩; have HB2 := Lib.hid hb; clear hb)
                    have HROW2 := Lib.hid (HROW.out.below hgl HB2.out)
                    have HB3 := Lib.hid (HB.out.trans (HB2.out.mono HB.out.size))
                    clear HROW HB HB2 hpc c0 c1 c2 c3 hgl
                    rename World => w3
                    obtain ⟨c0, c1, c2, c3⟩ := HROW2.out.at_ k8 hkW
                    obtain ⟨d0, d1, d2, d3⟩ := HROW2.out.at_ at_ hdW
                    rw [HGK.out] at c0 c1 c2 c3
                    rw [HGD.out] at d0 d1 d2 d3
                    have hfr := HROW2.out.free
                    have hk8i : (k8 : Int) < (k : Int) := by omega
                    have hdi : (at_ : Int) < (k : Int) := by omega
                    go_wp2
                    go_region
                    have HR4 : Hid (RowsP (w3.setCell ⟨g, k8 * 4 + 1, none⟩ (.int .u64 ((y.x ^^^ p.x : Nat) : Int))).drew g (T.set k8 ⟨y.n, y.x ^^^ p.x, y.z, y.ph⟩)) := Lib.hid (by
                      have h9 := (HROW2.out.setX hkW (y.x ^^^ p.x)).drew
                      rw [HGK.out] at h9
                      exact h9)
                    have HB4 : Hid (Below w.heap.size w (w3.setCell ⟨g, k8 * 4 + 1, none⟩ (.int .u64 ((y.x ^^^ p.x : Nat) : Int))).drew) := Lib.hid (HB3.out.setCell (show w.heap.size ≤ (⟨g, k8 * 4 + 1, none⟩ : Addr).block from hgb) _).drew
                    clear HROW2 HB3 c0 c1 c2 c3 d0 d1 d2 d3 hfr
                    generalize (w3.setCell ⟨g, k8 * 4 + 1, none⟩ (.int .u64 ((y.x ^^^ p.x : Nat) : Int))).drew = w4 at HR4 HB4 ⊢
                    have hkT : k8 < (T.set k8 ⟨y.n, y.x ^^^ p.x, y.z, y.ph⟩).length := by simpa using hkW
                    obtain ⟨c0, c1, c2, c3⟩ := HR4.out.at_ k8 hkT
                    simp only [List.getElem_set_self] at c0 c1 c2 c3
                    obtain ⟨d0, d1, d2, d3⟩ := HR4.out.at_ at_ (by simpa using hdW)
                    rw [List.getElem_set_ne (by omega), HGD.out] at d0 d1 d2 d3
                    have hfr := HR4.out.free
                    go_wp2
                    go_region
                    go_wp2
                    go_roundw
                    case rel => exact ⟨k8 + 1, by omega, by omega, by go_num, by
                      have h9 := (HR4.out.setZ hkT (y.z ^^^ p.z)).drew
                      simp only [List.getElem_set_self, List.set_set] at h9
                      rw [show (⟨y.n, y.x ^^^ p.x, y.z ^^^ p.z, y.ph⟩ : Pau) = padd y p from rfl, HST.out] at h9
                      exact h9, (HB4.out.setCell (show w.heap.size ≤ (⟨g, k8 * 4 + 2, none⟩ : Addr).block from hgb) _).drew⟩
                    case measure => simp [intOf]; omega
                  | false =>
                    rw [hA] at hpc
                    have HST : Hid (swept S p at_ k8 bit = swept S p at_ (k8 + 1) bit) := Lib.hid (swept_skip hkS hA)
                    clear hA ux uz hgk hgd
                    generalize S[k8] = y at *
                    go_wp2_with (go_at_call 52; refine (hpc _).mono ?_; rintro e w' ⟨rfl, hb⟩; have HB2 := Lib.hid hb; clear hb)
                    have HROW2 := Lib.hid (HROW.out.below hgl HB2.out)
                    have HB3 := Lib.hid (HB.out.trans (HB2.out.mono HB.out.size))
                    clear HROW HB HB2 hpc c0 c1 c2 c3 hgl
                    go_wp2
                    go_roundw
                    case rel => exact ⟨k8 + 1, by omega, by omega, by go_num, by rw [← HST.out]; exact HROW2.out, HB3.out⟩
                    case measure => simp [intOf]; omega
                · obtain rfl : k8 = k := by omega
                  have HG : Hid (GInv l (bit + 1) (at_ + 1) (swept S p at_ k8 bit)) := Lib.hid (by
                    have h9 := HSW.out
                    rw [HSL.out] at h9
                    exact h9)
                  go_wp2
                  go_roundw
                  case rel => exact ⟨bit + 1, at_ + 1, swept S p at_ k8 bit, by omega, by go_num, by go_num, HG.out, HROW.out, HB.out⟩
                  case measure => simp [intOf]; omega
            · have hs2 : ¬ done = at_ := fun e => hsame e.symm
              go_wp2_with fail
              go_region
              obtain ⟨w2, hw2⟩ : ∃ w2, w2 = (set4 (set4 wr g (at_ * 4) p) g (done * 4) q).drew := ⟨_, rfl⟩
              have HR2 : Hid (RowsP w2 g (swapped L at_ done hat hdl)) := Lib.hid (hw2 ▸ HS2.out.drew)
              have HB2 : Hid (Below w.heap.size w w2) := Lib.hid (hw2 ▸ (Below.set4 (Below.set4 HB.out hgb _ _) hgb _ _).drew)
              unfold set4 at hw2
              rw [← hw2]
              clear hw2 HS2 HROW HB c0 c1 c2 c3 d0 d1 d2 d3 hfr hgl
              go_wp2
              go_loopw [8] (fun s wr => ∃ k8 : Nat, done < k8 ∧ k8 ≤ k ∧ s = .int .i64 k8 ∧ RowsP wr g (swept (swapped L at_ done hat hdl) q done k8 bit) ∧ Below w.heap.size w wr) (fun s _ => k - (intOf s).toNat)
              case atStart => exact ⟨done + 1, by omega, by omega, by go_num, by rw [swept_start]; exact HR2.out, HB2.out⟩
              case round =>
                clear HR2 HB2
                obtain ⟨k8, hdk8, hk8, rfl, hrows, hb⟩ := hrel
                have HROW := Lib.hid hrows
                have HB := Lib.hid hb
                clear hrows hb
                have HSL : Hid ((swapped L at_ done hat hdl).length = k) := Lib.hid (by rw [swapped_len, HLEN.out])
                have HSD : Hid (∀ h, (swapped L at_ done hat hdl)[done]'h = q) := Lib.hid (fun h => by rw [swapped_at, if_pos rfl]; exact HQ.out)
                have HSW2 : Hid (∀ p ∈ swapped L at_ done hat hdl, WF p) := Lib.hid (fun p hp => HI.out.wf p ((List.set_set_perm hat hdl).mem_iff.1 hp))
                have HWQ : Hid (WF q) := Lib.hid (by rw [← HQ.out]; exact HI.out.wf _ (List.getElem_mem _))
                generalize hS : swapped L at_ done hat hdl = S at *
                by_cases hlt8 : k8 < k
                · have hkS : k8 < S.length := by have := HSL.out; omega
                  have hdS : done < S.length := by have := HSL.out; omega
                  have hkW : k8 < (swept S q done k8 bit).length := by rw [swept_len]; exact hkS
                  have hdW : done < (swept S q done k8 bit).length := by rw [swept_len]; exact hdS
                  have hpc := fun W => part_calls S[k8] bit (HSW2.out _ (List.getElem_mem hkS)) hlt1 W
                  obtain ⟨ux, uz, _, _⟩ := HSW2.out _ (List.getElem_mem hkS)
                  have hgk : (swept S q done k8 bit)[k8] = S[k8] := swept_get hkS
                  have hgd : (swept S q done k8 bit)[done] = q := (swept_low (Nat.le_refl _) hdS).trans (HSD.out hdS)
                  obtain ⟨c0, c1, c2, c3⟩ := HROW.out.at_ k8 hkW
                  rw [hgk] at c0 c1 c2 c3
                  have hgl := HROW.out.lt
                  cases hA : pbit S[k8] bit with
                  | true =>
                    rw [hA] at hpc
                    have HST : Hid ((swept S q done k8 bit).set k8 (padd S[k8] q) = swept S q done (k8 + 1) bit) := Lib.hid (swept_step hdk8 hkS hA)
                    have hXX := xor_eq ux HWQ.out.x
                    have hZZ := xor_eq uz HWQ.out.z
                    clear hA ux uz
                    have HGK := Lib.hid hgk
                    have HGD := Lib.hid hgd
                    generalize swept S q done k8 bit = T at *
                    generalize S[k8] = y at *
                    clear hgk hgd
                    go_wp2_with (go_at_call 52; refine (hpc _).mono ?_; rintro e w' ⟨rfl, hb⟩; have HB2 := Lib.hid hb; clear hb)
                    have HROW2 := Lib.hid (HROW.out.below hgl HB2.out)
                    have HB3 := Lib.hid (HB.out.trans (HB2.out.mono HB.out.size))
                    clear HROW HB HB2 hpc c0 c1 c2 c3 hgl
                    rename World => w3
                    obtain ⟨c0, c1, c2, c3⟩ := HROW2.out.at_ k8 hkW
                    obtain ⟨d0, d1, d2, d3⟩ := HROW2.out.at_ done hdW
                    rw [HGK.out] at c0 c1 c2 c3
                    rw [HGD.out] at d0 d1 d2 d3
                    have hfr := HROW2.out.free
                    have hk8i : (k8 : Int) < (k : Int) := by omega
                    have hdi : (done : Int) < (k : Int) := by omega
                    go_wp2
                    go_region
                    have HR4 : Hid (RowsP (w3.setCell ⟨g, k8 * 4 + 1, none⟩ (.int .u64 ((y.x ^^^ q.x : Nat) : Int))).drew g (T.set k8 ⟨y.n, y.x ^^^ q.x, y.z, y.ph⟩)) := Lib.hid (by
                      have h9 := (HROW2.out.setX hkW (y.x ^^^ q.x)).drew
                      rw [HGK.out] at h9
                      exact h9)
                    have HB4 : Hid (Below w.heap.size w (w3.setCell ⟨g, k8 * 4 + 1, none⟩ (.int .u64 ((y.x ^^^ q.x : Nat) : Int))).drew) := Lib.hid (HB3.out.setCell (show w.heap.size ≤ (⟨g, k8 * 4 + 1, none⟩ : Addr).block from hgb) _).drew
                    clear HROW2 HB3 c0 c1 c2 c3 d0 d1 d2 d3 hfr
                    generalize (w3.setCell ⟨g, k8 * 4 + 1, none⟩ (.int .u64 ((y.x ^^^ q.x : Nat) : Int))).drew = w4 at HR4 HB4 ⊢
                    have hkT : k8 < (T.set k8 ⟨y.n, y.x ^^^ q.x, y.z, y.ph⟩).length := by simpa using hkW
                    obtain ⟨c0, c1, c2, c3⟩ := HR4.out.at_ k8 hkT
                    simp only [List.getElem_set_self] at c0 c1 c2 c3
                    obtain ⟨d0, d1, d2, d3⟩ := HR4.out.at_ done (by simpa using hdW)
                    rw [List.getElem_set_ne (by omega), HGD.out] at d0 d1 d2 d3
                    have hfr := HR4.out.free
                    go_wp2
                    go_region
                    go_wp2
                    go_roundw
                    case rel => exact ⟨k8 + 1, by omega, by omega, by go_num, by
                      have h9 := (HR4.out.setZ hkT (y.z ^^^ q.z)).drew
                      simp only [List.getElem_set_self, List.set_set] at h9
                      rw [show (⟨y.n, y.x ^^^ q.x, y.z ^^^ q.z, y.ph⟩ : Pau) = padd y q from rfl, HST.out] at h9
                      exact h9, (HB4.out.setCell (show w.heap.size ≤ (⟨g, k8 * 4 + 2, none⟩ : Addr).block from hgb) _).drew⟩
                    case measure => simp [intOf]; omega
                  | false =>
                    rw [hA] at hpc
                    have HST : Hid (swept S q done k8 bit = swept S q done (k8 + 1) bit) := Lib.hid (swept_skip hkS hA)
                    clear hA ux uz hgk hgd
                    generalize S[k8] = y at *
                    go_wp2_with (go_at_call 52; refine (hpc _).mono ?_; rintro e w' ⟨rfl, hb⟩; have HB2 := Lib.hid hb; clear hb)
                    have HROW2 := Lib.hid (HROW.out.below hgl HB2.out)
                    have HB3 := Lib.hid (HB.out.trans (HB2.out.mono HB.out.size))
                    clear HROW HB HB2 hpc c0 c1 c2 c3 hgl
                    go_wp2
                    go_roundw
                    case rel => exact ⟨k8 + 1, by omega, by omega, by go_num, by rw [← HST.out]; exact HROW2.out, HB3.out⟩
                    case measure => simp [intOf]; omega
                · obtain rfl : k8 = k := by omega
                  have HG : Hid (GInv l (bit + 1) (done + 1) (swept S q done k8 bit)) := Lib.hid (by
                    have h9 := HSW.out
                    rw [HSL.out] at h9
                    exact h9)
                  go_wp2
                  go_roundw
                  case rel => exact ⟨bit + 1, done + 1, swept S q done k8 bit, by omega, by go_num, by go_num, HG.out, HROW.out, HB.out⟩
                  case measure => simp [intOf]; omega
    · by_cases hb : bit < 128
      · obtain rfl : done = n := by omega
        have HR : Hid (r = true) := Lib.hid (HRES.out.2 (by
          have hi := HI.out
          rw [← HLEN.out] at hi
          exact hi.full))
        go_wp2
        go_ret
        rw [HR.out]
        exact ⟨by simp, HB.out⟩
      · obtain rfl : bit = 128 := by omega
        have hr2 : r = decide (done = n) := by
          by_cases e : done = n
          · subst e
            have hi := HI.out
            rw [← HLEN.out] at hi
            simp [HRES.out.2 hi.full]
          · have := HI.out.short (by have := HLEN.out; omega)
            have h3 : ¬ r = true := fun h4 => this (HRES.out.1 h4)
            simp [e, h3]
        by_cases e : done = n
        · obtain rfl : r = true := by simp [hr2, e]
          clear hr2
          go_wp2
          go_ret
          exact ⟨by simp [e], HB.out⟩
        · have e2 : ¬ ((done : Int) = (n : Int)) := by omega
          obtain rfl : r = false := by simp [hr2, e]
          clear hr2
          go_wp2
          go_ret
          exact ⟨by simp; omega, HB.out⟩

theorem free_calls (a : Option Addr) (c : Nat) (l : List Pau) (w : World) (hr : Row w a c l) (r : Bool) (hres : r = !elim (l.map xz)) :
    Calls Try.prog 34 #[(Value.slice a l.length c)] w fun e w' => e = .returned (.bool r) ∧ Below w.heap.size w w' := by
  by_cases h0 : 0 < l.length
  · rcases hr.at_ with e | ⟨b, off, e, _⟩
    · rw [e] at h0; simp at h0
    · subst e
      refine free_some b off c l w hr h0 r ?_
      have h1 := elim_iff _ (l.map xz) rfl (fun v hv => by obtain ⟨p, hp, rfl⟩ := List.mem_map.1 hv; exact ⟨(hr.wf p hp).x, (hr.wf p hp).z⟩)
      rw [hres]
      cases he : elim (l.map xz) with
      | true => simp [h1.1 he]
      | false =>
        have : Ind (l.map xz) := Classical.byContradiction fun h => by rw [h1.2 h] at he; cases he
        simp [this]
  · obtain rfl : l = [] := List.length_eq_zero_iff.1 (by omega)
    have : elim (([] : List Pau).map xz) = false := by simp [elim]
    rw [hres, this]
    exact free_none a c w
end Go.Proofs.Ytfnmembjgclhoaa.CD
