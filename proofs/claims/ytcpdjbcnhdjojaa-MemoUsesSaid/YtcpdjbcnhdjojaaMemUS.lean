/- Memos with keys of one kind: Put at a key that is not there. -/
import Derived.Test.YtcpdjbcnhdjojaaMemPS
import Derived.Outline
import Derived.StillTailTactics
import Derived.Deep.LoopGhost
namespace Go.Proofs.Ytcpdjbcnhdjojaa.MS
open Go.RowKit Go.Maps
set_option linter.unusedVariables false
set_option linter.unusedSimpArgs false
section
variable {base : Nat} {w w' : World} {M B : Nat} {room now : Int} {st : List Ent}

def PutPost (base : Nat) (w : World) (M B : Nat) (room now : Int) (st : List Ent) (k : ByteArray) (v : Int) (b : Bool) (x : Ending) (w' : World) : Prop :=
  x = .returned (.bool b) ∧ (∃ blk, MemoAt base w' M B room (now + 1) (⟨blk, k, v, now + 1⟩ :: st)) ∧ Below base w w'

theorem MemoAt.drewN (h : MemoAt base w M B room now st) (n : Nat) : MemoAt base (w.drewN n) M B room now st := h.keep rfl rfl (fun _ _ => rfl)

/-- What stands behind the box of a new entry. -/
theorem MemoAt.laidNew (h : MemoAt base w M B room now st) {k : ByteArray} (v : Int) (hk : KOk k) (hn : ∀ e ∈ st, e.key ≠ k) (hl : st.length + 1 < maxLen) (hu : now < 18446744073709551615) :
    ∃ w2, Calls Try.prog 22 #[.pointer (some ⟨M, 0, none⟩), .pointer (some ⟨w.heap.size, 0, none⟩)] (w.alloc (.cells #[(Value.string k), .int .i64 v, .int .u64 0] 62)) (fun e w' => e = .returned (.tuple #[]) ∧ w' = touched (w.alloc (.cells #[(Value.string k), .int .i64 v, .int .u64 0] 62)) M w.heap.size now) ∧
      (touched (w.alloc (.cells #[(Value.string k), .int .i64 v, .int .u64 0] 62)) M w.heap.size now).cell? ⟨M, 2, none⟩ = some (.map (some B)) ∧
      (Instr.mapUpdate 56 (.map (some B)) (Value.string k) (.pointer (some ⟨w.heap.size, 0, none⟩))).run Try.prog (touched (w.alloc (.cells #[(Value.string k), .int .i64 v, .int .u64 0] 62)) M w.heap.size now) = .ok () w2 ∧
      MemoAt base w2 M B room (now + 1) (⟨w.heap.size, k, v, now + 1⟩ :: st) ∧ Below base w w2 := by
  have hb0 : base ≤ w.heap.size := by have := h.bM; have := h.ltM; omega
  have h1 : MemoAt base (w.alloc (.cells #[(Value.string k), .int .i64 v, .int .u64 0] 62)) M B room now st := h.below ((Below.refl _ _).alloc (Nat.le_refl _) _)
  have hx : EntAt (w.alloc (.cells #[(Value.string k), .int .i64 v, .int .u64 0] 62)) ⟨w.heap.size, k, v, 0⟩ := (MapKept.heap_alloc w _).1
  have hM : w.heap.size ≠ M := by have := h.ltM; omega
  have hB : w.heap.size ≠ B := by have := h.ltB; omega
  obtain ⟨h2, hx2⟩ := h1.ticked hx hM hB (fun e he => by have := h.ltE he; show e.blk ≠ w.heap.size; omega)
  obtain ⟨w2, hrun, h3, ht⟩ := h2.store hx2 (Int.le_refl _) (fun e he => by have := h.upto e he; show e.used < now + 1; omega) hk hn hb0 hl
  refine ⟨w2, ?_, h2.cells.2.2.1, hrun, h3, ((((Below.refl base w).alloc hb0 _).setCell h.bM _).setCell hb0 _).trans (turned_below ht h.bB)⟩
  exact touch_calls M w.heap.size now 0 _ hM.symm (u64_wf (by have := h.pos; omega) (by omega)) h1.cells.2.1 h1.cells.2.2.2 (cell_of hx rfl) (free_of hx)

set_option maxRecDepth 100000 in
set_option maxHeartbeats 2000000 in
theorem Put_room (h : MemoAt base w M B room now st) {k : ByteArray} (v : Int) (hk : KOk k) (hn : ∀ e ∈ st, e.key ≠ k) (hl : (st.length : Int) < room) (hr : room ≤ 4096) (hu : now < 18446744073709551615) :
    Calls Try.prog 13 #[.pointer (some ⟨M, 0, none⟩), (Value.string k), .int .i64 v] w (PutPost base w M B room now st k v false) := by
  obtain ⟨c0, c1, c2, cf⟩ := h.cells
  have hlk := h.look_not hk hn
  have hlr := fun n => (h.drewN n).lenRun 3
  have hl2 := h.lenI
  have hlm : st.length + 1 < maxLen := by unfold maxLen; omega
  have hnlt : ¬ ((st.length : Int) ≥ room) := by omega
  have hd : decide (room ≤ (st.length : Int)) = false := decide_eq_false (by omega)
  have hbd : ∀ (w : World), (Instr.build 62 #[(0, (Value.string k)), (1, .int .i64 v)]).run Try.prog w = .ok (.agg #[(Value.string k), .int .i64 v, .int .u64 0]) w := fun w => run_build w 62 _ _ (by kernel_rfl)
  have HL : Hid _ := Lib.hid (fun n => (h.drewN n).laidNew v hk hn hlm hu)
  clear h hk hn hlm hu
  go_enter Try.func13, Try.ntmps13
  go_wp2
  go_quiet (fail)
  obtain ⟨w2, hT, hc, hrun, hM2, hB2⟩ := HL.out nq
  have hs : (w.drewN nq).heap.size = w.heap.size := rfl
  rw [hs] at hT hc hrun hM2
  have hB3 : Below base w w2 := ⟨hB2.os, hB2.tape, hB2.output, hB2.size, hB2.block⟩
  clear HL hB2 hs
  generalize touched ((w.drewN nq).alloc (.cells #[(Value.string k), .int .i64 v, .int .u64 0] 62)) M w.heap.size now = W at hT hc hrun
  go_wp2_with (go_at_call 22; refine hT.mono ?_; rintro e w' ⟨rfl, rfl⟩)
  go_ret
  exact ⟨rfl, ⟨_, hM2⟩, hB3⟩

/-- The oldest of those that have come. -/
def Best (S : List Ent) (left : Lit → Bool) (s : Value) : Prop :=
  (s = .pointer none ∧ ∀ e ∈ S, left (Lit.string e.key.data.toList) = true) ∨ ∃ o ∈ S, s = .pointer (some ⟨o.blk, 0, none⟩) ∧ left (Lit.string o.key.data.toList) = false ∧ ∀ e ∈ S, left (Lit.string e.key.data.toList) = false → o.used ≤ e.used

theorem Best.end_ {S : List Ent} {left : Lit → Bool} {s : Value} (h : Best S left s) (hl : ∀ kl, left kl = false) (hd : S.Pairwise (fun a b => b.used < a.used)) {st : List Ent} {o : Ent} (hS : S = st ++ [o]) : s = .pointer (some ⟨o.blk, 0, none⟩) := by
  subst hS
  rcases h with ⟨_, h⟩ | ⟨o', ho', rfl, _, h⟩
  · have := h o (by simp)
    rw [hl] at this
    cases this
  · have h1 := h o (by simp) (hl _)
    rw [List.pairwise_append] at hd
    rcases List.mem_append.1 ho' with h2 | h2
    · have := hd.2.2 o' h2 o (by simp); omega
    · simp at h2; rw [h2]

theorem Best.first {S : List Ent} {left : Lit → Bool} {s : Value} (h : Best S left s) (hk : S.Pairwise (fun a b => a.key ≠ b.key)) {e : Ent} (he : e ∈ S) (hkok : KOk e.key) (h0 : s = .pointer none) :
    Best S (fun z => left z && !z.sameKey (Lit.string e.key.data.toList)) (.pointer (some ⟨e.blk, 0, none⟩)) := by
  subst h0
  rcases h with ⟨_, h⟩ | ⟨o', ho', h1, _⟩
  · refine .inr ⟨e, he, rfl, by simp [WideAt.sameKey_self (keyLit hkok)], fun x hx hlx => ?_⟩
    simp only [h x hx, Bool.true_and, Bool.not_eq_false'] at hlx
    rw [keyInj hk hx he (lt_inj (WideAt.sameKey_eq hlx))]
    exact Int.le_refl _
  · cases h1

theorem Best.less {S : List Ent} {left : Lit → Bool} {o : Ent} (h : Best S left (.pointer (some ⟨o.blk, 0, none⟩))) (hb : ∀ x ∈ S, x.blk = o.blk → x = o) (hk : S.Pairwise (fun a b => a.key ≠ b.key)) {e : Ent} (he : e ∈ S) (hkok : KOk e.key) (hlt : e.used < o.used) :
    Best S (fun z => left z && !z.sameKey (Lit.string e.key.data.toList)) (.pointer (some ⟨e.blk, 0, none⟩)) := by
  rcases h with ⟨h1, _⟩ | ⟨o', ho', h1, h2, h⟩
  · cases h1
  · simp at h1
    rw [hb o' ho' h1.symm] at h2 h
    refine .inr ⟨e, he, rfl, by simp [WideAt.sameKey_self (keyLit hkok)], fun x hx hlx => ?_⟩
    by_cases hs : ((Lit.string x.key.data.toList)).sameKey (Lit.string e.key.data.toList) = true
    · rw [keyInj hk hx he (lt_inj (WideAt.sameKey_eq hs))]; exact Int.le_refl _
    · simp only [hs, Bool.not_false, Bool.and_true] at hlx
      have := h x hx (by simpa using hlx); omega

theorem Best.more {S : List Ent} {left : Lit → Bool} {o : Ent} (h : Best S left (.pointer (some ⟨o.blk, 0, none⟩))) (hb : ∀ x ∈ S, x.blk = o.blk → x = o) (hk : S.Pairwise (fun a b => a.key ≠ b.key)) {e : Ent} (he : e ∈ S) (hlt : ¬ e.used < o.used) :
    Best S (fun z => left z && !z.sameKey (Lit.string e.key.data.toList)) (.pointer (some ⟨o.blk, 0, none⟩)) := by
  rcases h with ⟨h1, _⟩ | ⟨o', ho', h1, h2, h⟩
  · cases h1
  · simp at h1
    rw [hb o' ho' h1.symm] at h2 h
    refine .inr ⟨o, by rw [← hb o' ho' h1.symm]; exact ho', rfl, by simp [h2], fun x hx hlx => ?_⟩
    by_cases hs : ((Lit.string x.key.data.toList)).sameKey (Lit.string e.key.data.toList) = true
    · rw [keyInj hk hx he (lt_inj (WideAt.sameKey_eq hs))]; omega
    · simp only [hs, Bool.not_false, Bool.and_true] at hlx
      exact h x hx (by simpa using hlx)

theorem ranges_drewN {r n cnt : Nat} {D : DataW Unit} {left : Lit → Bool} (h : w.ranges Try.prog 9 pe B r n D left cnt) (m : Nat) : (w.drewN m).ranges Try.prog 9 pe B r n D left cnt :=
  h.kept (row := none) ⟨rfl, rfl, rfl, Nat.le_refl _, fun _ _ _ => rfl⟩ (by simp) (by simp)
theorem below_drewN {b : Nat} (h : Below b w w') (m : Nat) : Below b w (w'.drewN m) := h.trans ⟨rfl, rfl, rfl, Nat.le_refl _, fun _ _ => rfl⟩

theorem without_last {o : Ent} (h : (st ++ [o]).Pairwise (fun a b => a.blk ≠ b.blk)) : without o (st ++ [o]) = st := by
  rw [List.pairwise_append] at h
  unfold without
  rw [List.filter_append, List.filter_eq_self.2 (fun x hx => by simpa using h.2.2 x hx o (by simp))]
  simp

def Best' (S : List Ent) (D : DataW Unit) (B : Nat) (w : World) (s : Value) (wr : World) : Prop :=
  ∃ left cnt, wr.ranges Try.prog 9 pe B w.heap.size S.length D left cnt ∧ Below w.heap.size w wr ∧ Best S left s

set_option maxRecDepth 100000 in
set_option maxHeartbeats 4000000 in
theorem Put_full {o : Ent} (h : MemoAt base w M B room now (st ++ [o])) {k : ByteArray} (v : Int) (hk : KOk k) (hn : ∀ e ∈ st ++ [o], e.key ≠ k) (hl : room ≤ (st.length : Int) + 1) (hu : now < 18446744073709551615) :
    Calls Try.prog 13 #[.pointer (some ⟨M, 0, none⟩), (Value.string k), .int .i64 v] w (PutPost base w M B room now st k v true) := by
  obtain ⟨S, hS⟩ : ∃ S, S = st ++ [o] := ⟨_, rfl⟩
  have hSl : (S.length : Int) = (st.length : Int) + 1 := by rw [hS]; simp
  rw [← hS] at h hn
  have hlm : st.length + 1 < maxLen := by have := h.len; rw [hS] at this; simpa using this
  obtain ⟨c0, c1, c2, cf⟩ := h.cells
  have hlk := h.look_not hk hn
  have hlr := fun n => (h.drewN n).lenRun 3
  have hl2 := h.lenI
  have hge : room ≤ (S.length : Int) := by omega
  have hd : decide (room ≤ (S.length : Int)) = true := decide_eq_true hge
  have hbd : ∀ (w : World), (Instr.build 62 #[(0, (Value.string k)), (1, .int .i64 v)]).run Try.prog w = .ok (.agg #[(Value.string k), .int .i64 v, .int .u64 0]) w := fun w => run_build w 62 _ _ (by kernel_rfl)
  obtain ⟨D, hown, hD2, hD3, hD4⟩ := h.map
  have HR : Hid _ := Lib.hid (fun n => (own_block (w' := w.drewN n) hown rfl).range law Try.underlying56)
  have HM : Hid _ := Lib.hid h
  have HS : Hid _ := Lib.hid hS
  have HSl : Hid _ := Lib.hid hSl
  have HN : Hid _ := Lib.hid hn
  have HD : Hid _ := Lib.hid (And.intro hD2 (And.intro hD3 hD4))
  clear h hS hSl hn hD2 hD3 hD4 hown
  go_enter Try.func13, Try.ntmps13
  go_wp2
  go_quiet (fail)
  obtain ⟨w0, hrunR, hrg0, hg0, hs0⟩ := HR.out nq
  go_wp2_with fail
  go_loopw [10] (fun s wr => Best' S D B w s wr) (fun _ wr => wr.rangeLeft B w.heap.size)
  case atStart =>
    exact ⟨_, _, hrg0, ⟨hg0.os, hg0.tape, hg0.output, hg0.size, fun i hi => hg0.block i hi (by simp)⟩, .inl ⟨rfl, fun e he => Maps.has_true_of_atKey (HD.out.2.1 e he)⟩⟩
  case round =>
    clear hrg0 hg0 hs0 hrunR HR
    obtain ⟨left, cnt, hrg, hbel, hbest⟩ := hrel
    have HB : Hid _ := Lib.hid hbest
    have hm1 := HM.out.below hbel
    rcases hrg.next law 0 with ⟨hc0, hl0, hrunN⟩ | ⟨key, v', kl, y, w1, cnt', hkey, hlk', hv, hat, hrunN, hrg1, hlt, hgr, hsz, hen⟩
    · have hs := hbest.end_ hl0 HM.out.desc HS.out
      subst hs
      have hoS : o ∈ S := by rw [HS.out]; simp
      have hm1d : MemoAt base wr.drew M B room now S := hm1.keep rfl rfl (fun _ _ => rfl)
      obtain ⟨w1, hdel, hm2, ht2⟩ := hm1d.drop hoS 0
      have hwo : without o S = st := by rw [HS.out]; exact without_last (HS.out ▸ HM.out.blks)
      rw [hwo] at hm2
      obtain ⟨w2, hT, hc, hrun, hM2, hB2⟩ := hm2.laidNew v hk (fun e he => HN.out e (by rw [HS.out]; simp [he])) hlm hu
      obtain ⟨d0, d1, d2, df, dg⟩ := hm1.ecells hoS
      obtain ⟨g0, g1, g2, gf⟩ := hm1.cells
      have hB0 : base ≤ w.heap.size := by have := HM.out.bM; have := HM.out.ltM; omega
      have HB2 : Hid (Below base w w2) := Lib.hid (((hbel.mono hB0).trans (show Below base wr wr.drew from ⟨rfl, rfl, rfl, Nat.le_refl _, fun _ _ => rfl⟩)).trans ((turned_below ht2 hm1d.bB).trans hB2))
      have HM2 : Hid _ := Lib.hid hM2
      clear hbel hbest HB hm1 hrg hl0 hm1d hm2 ht2 hwo hB2 hM2 hoS
      generalize touched (w1.alloc (.cells #[(Value.string k), .int .i64 v, .int .u64 0] 62)) M w1.heap.size now = W at hT hc hrun
      go_wp2_with fail
      go_still_tail 8, (by kernel_rfl)
      go_wp2_with (go_at_call 22; refine hT.mono ?_; rintro e w' ⟨rfl, rfl⟩)
      go_ret
      exact ⟨rfl, ⟨_, HM2.out⟩, HB2.out⟩
    · obtain ⟨e, he, rfl⟩ : ∃ e ∈ S, (Lit.string e.key.data.toList) = kl := by
        apply Classical.byContradiction
        intro hne
        have := HD.out.2.2 kl fun e he e1 => hne ⟨e, he, e1⟩
        rw [Maps.has_true_of_atKey hat] at this
        cases this
      have hy := hat .nil
      rw [HD.out.2.1 e he] at hy
      have hbel1 : Below w.heap.size w w1 := hbel.trans ⟨hgr.os, hgr.tape, hgr.output, hgr.size, fun i hi => hgr.block i (Nat.lt_of_lt_of_le hi hbel.size) (fun e1 => by injection e1 with e1; omega)⟩
      obtain ⟨d0, d1, d2, df, dg⟩ := (HM.out.below hbel1).ecells he
      have hv' : v' = .pointer (some ⟨e.blk, 0, none⟩) := pe_block (ps := y.2) (by rw [hv, hy])
      subst hv'
      have hke := HM.out.kok e he
      have hbI : Hid _ := Lib.hid (fun x (hx : x ∈ S) (y : Ent) (hy : y ∈ S) (h : x.blk = y.blk) => HM.out.blkInj hx hy h)
      have HRG : Hid _ := Lib.hid hrg1
      have HL0 : Hid _ := Lib.hid hrg.left_eq
      have HBL : Hid _ := Lib.hid hbel1
      clear hrg1 hrg hbel1 hbel hgr hsz hy hv hat hkey hlk' hm1 df dg
      rcases hbest with ⟨rfl, hall⟩ | ⟨o', ho', rfl, hl1, hl2⟩
      · clear hall
        go_wp2_with fail
        go_quiet (fail)
        go_wp2
        go_roundw
        case rel => exact ⟨_, cnt', ranges_drewN HRG.out _, below_drewN HBL.out _, HB.out.first HM.out.keys he hke rfl⟩
        case measure => rw [HL0.out]; exact Nat.lt_of_le_of_lt (Nat.le_of_eq HRG.out.left_eq) hlt
      · obtain ⟨f0, f1, f2, ff, fg⟩ := (HM.out.below HBL.out).ecells ho'
        clear hl1 hl2 f0 f1 ff fg d0 d1
        by_cases hlt' : e.used < o'.used
        · go_wp2_with fail
          go_quiet (fail)
          go_wp2
          go_roundw
          case rel => exact ⟨_, cnt', ranges_drewN HRG.out _, below_drewN HBL.out _, HB.out.less (fun x hx h => hbI.out x hx o' ho' h) HM.out.keys he hke hlt'⟩
          case measure => rw [HL0.out]; exact Nat.lt_of_le_of_lt (Nat.le_of_eq HRG.out.left_eq) hlt
        · have hdl : decide (e.used < o'.used) = false := decide_eq_false hlt'
          go_wp2_with fail
          go_quiet (fail)
          go_wp2
          go_roundw
          case rel => exact ⟨_, cnt', ranges_drewN HRG.out _, below_drewN HBL.out _, HB.out.more (fun x hx h => hbI.out x hx o' ho' h) HM.out.keys he (by omega)⟩
          case measure => rw [HL0.out]; exact Nat.lt_of_le_of_lt (Nat.le_of_eq HRG.out.left_eq) hlt
end
end Go.Proofs.Ytcpdjbcnhdjojaa.MS
