/- sparse's Apply at the map that the laws try first: walked. -/
import Derived.Test.YtlobgpgdknjhlaaGreatWhAE
import Derived.Deep.RegionWith
import Derived.Deep.CutRange
namespace Go.Proofs.YtlobgpgdknjhlaaGreat.WH
open Go Go.RowKit Go.Maps Go.Proofs.YtlobgpgdknjhlaaGreat.F
set_option linter.unusedVariables false
set_option linter.unusedSimpArgs false
attribute [local go_sem] run_store_complex run_store_func
theorem d1_has (kl : Lit) (h : Maps.has D1 kl = true) : kl = UK 0 := by
  by_cases h0 : kl = UK 0
  · exact h0
  · rw [has_put_other h0] at h
    cases h
theorem d1_at (kl : Lit) (h : Maps.has D1 kl = true) (z : DataW Value) : DataW.atKey D1 kl z = .held ONE := by
  rw [d1_has kl h]
  exact atKey_put_same isMap_empty (uk_isKey 0 (by decide)) _ z
theorem But.grownBy {b : Nat} {W W' : World} (h : But b W W') : W.grownBy W' (some b) := ⟨h.os, h.tape, h.output, h.size, fun k hk hne => h.block k hk (fun e => hne (by rw [e]))⟩
/-- Between the rounds: the range over the terms, the map that is built. -/
structure SA (w : World) (b it bo : Nat) (left : Lit → Bool) (cnt n : Nat) (D : DataW Value) (W : World) : Prop where
  below : Below w.heap.size w W
  rg : W.ranges Tryz.prog 23 rd b it 1 D1 left cnt
  out : W.ownsMap Tryz.prog 23 rd bo n D
  ge : w.heap.size ≤ bo
  nb : b ≠ bo
  ni : it ≠ bo
  gi : w.heap.size ≤ it
section
variable {w W W' : World} {b it bo cnt n n' : Nat} {left : Lit → Bool} {D D' : DataW Value}
theorem SA.next (h : SA w b it bo left cnt n D W) (hb : Below W.heap.size W W') : SA w b it bo left cnt n D W' :=
  ⟨h.below.trans (hb.mono h.below.size), h.rg.kept (row := none) (Below.grownBy hb) (by simp) (by simp), h.out.kept (row := none) (Below.grownBy hb) (by simp), h.ge, h.nb, h.ni, h.gi⟩
theorem SA.set (h : SA w b it bo left cnt n D W) (ho : W'.ownsMap Tryz.prog 23 rd bo n' D') (hb : But bo W W') : SA w b it bo left cnt n' D' W' :=
  ⟨hb.above h.below h.ge, h.rg.kept (But.grownBy hb) (by simpa using h.nb) (by simpa using h.ni), ho, h.ge, h.nb, h.ni, h.gi⟩
theorem map_cell (h : W.ownsMap Tryz.prog 23 rd bo n D) {b o : Nat} {v : Value} (hc : W.cell? ⟨b, o, none⟩ = some v) : b ≠ bo := by
  rintro rfl
  obtain ⟨es, clock, hb, -⟩ := h
  unfold World.cell? at hc
  rw [hb] at hc
  cases hc
end
/-- The column's lists, an element's box. -/
structure SL (a9 : Option Addr) (c9 : Nat) (a10 : Option Addr) (c10 b11 : Nat) (W : World) : Prop where
  rows : Ints W a9 c9 [0, 1]
  amps : Amps W a10 c10 [⟨0, 0, 1⟩, ⟨1, 0, 1⟩]
  bx : Bx W b11 4607182418800017408 0 0 0
structure SS (w : World) (b it bo : Nat) (left : Lit → Bool) (cnt n : Nat) (D : DataW Value) (a9 : Option Addr) (c9 : Nat) (a10 : Option Addr) (c10 b11 : Nat) (W : World) : Prop where
  sa : SA w b it bo left cnt n D W
  sl : SL a9 c9 a10 c10 b11 W
section
variable {w W W' : World} {b it bo cnt n n' c9 c10 b11 : Nat} {a9 a10 : Option Addr} {left : Lit → Bool} {D D' : DataW Value}
theorem SS.next (h : SS w b it bo left cnt n D a9 c9 a10 c10 b11 W) (hb : Below W.heap.size W W') : SS w b it bo left cnt n D a9 c9 a10 c10 b11 W' :=
  ⟨h.sa.next hb, h.sl.rows.below hb, h.sl.amps.below hb, Below.heap_some hb h.sl.bx⟩
theorem SS.set (h : SS w b it bo left cnt n D a9 c9 a10 c10 b11 W) (ho : W'.ownsMap Tryz.prog 23 rd bo n' D') (hb : But bo W W') : SS w b it bo left cnt n' D' a9 c9 a10 c10 b11 W' := by
  have hk : ∀ b' o v, W.cell? ⟨b', o, none⟩ = some v → W'.cell? ⟨b', o, none⟩ = some v := fun b' o v hc => (hb.cell (block_lt hc) (map_cell h.sa.out hc) o).trans hc
  refine ⟨h.sa.set ho hb, { h.sl.rows with at_ := h.sl.rows.at_.imp id ?_ }, { h.sl.amps with at_ := h.sl.amps.at_.imp id ?_ }, ?_⟩
  · rintro ⟨b', off, e, hc⟩
    exact ⟨b', off, e, fun i hi => hk _ _ _ (hc i hi)⟩
  · rintro ⟨b', off, e, hc⟩
    exact ⟨b', off, e, fun i hi => ⟨hk _ _ _ (hc i hi).1, hk _ _ _ (hc i hi).2.1, hk _ _ _ (hc i hi).2.2⟩⟩
  · exact (hb.block _ (Array.getElem?_eq_some_iff.1 h.sl.bx).1 (map_cell h.sa.out (cell_at (i := 0) h.sl.bx rfl))).trans h.sl.bx
abbrev Z65 : Obj := .cells #[.complex .f64 0 0, .complex .f64 0 0] 65
theorem SS.fin1 (h : SS w b it bo left cnt n D a9 c9 a10 c10 b11 W) : ∃ b17, Value.pointer (some ⟨W.heap.size, 0, none⟩) = Value.pointer (some ⟨b17, 0, none⟩) ∧ SS w b it bo left cnt n D a9 c9 a10 c10 b11 (W.alloc (.cells #[.complex .f64 4607182418800017408 0, .complex .f64 0 0] 65)) ∧ Bx (W.alloc (.cells #[.complex .f64 4607182418800017408 0, .complex .f64 0 0] 65)) b17 4607182418800017408 0 0 0 ∧ w.heap.size ≤ b17 :=
  ⟨_, rfl, h.next (below1 _ _), newB _ _ rfl, h.sa.below.size⟩
theorem SS.fin2 {z : Nat} {W0 : World} (h : SS w b it bo left cnt n D a9 c9 a10 c10 b11 W0) (hb : Below W0.heap.size W0 W) (hz : W.heap[z]? = some Z65) (hz1 : W0.heap.size ≤ z) : ∃ b17, Value.pointer (some ⟨z, 0, none⟩) = Value.pointer (some ⟨b17, 0, none⟩) ∧ SS w b it bo left cnt n D a9 c9 a10 c10 b11 ((W.setCell ⟨z, 0, none⟩ (.complex .f64 4607182418800017408 0)).setCell ⟨z, 1, none⟩ (.complex .f64 0 0)) ∧ Bx ((W.setCell ⟨z, 0, none⟩ (.complex .f64 4607182418800017408 0)).setCell ⟨z, 1, none⟩ (.complex .f64 0 0)) b17 4607182418800017408 0 0 0 ∧ w.heap.size ≤ b17 := by
  refine ⟨_, rfl, h.next (put2 hb hz1 _ _), ?_, Nat.le_trans h.sa.below.size hz1⟩
  unfold Bx
  rw [setCell_block (setCell_block hz _) _]
  rfl
end
theorem bx_same {W : World} {b x y z t : Nat} (h : Bx W b x y z t) : (W.setCell ⟨b, 0, none⟩ (.complex .f64 x y)).setCell ⟨b, 1, none⟩ (.complex .f64 z t) = W := by
  have h1 : W.setCell ⟨b, 0, none⟩ (.complex .f64 x y) = W := by
    rw [setCell_eq_setRow W b 0 _ _ (0, 0) _ h]
    exact setRow_self W b _ _ _ h
  rw [h1, setCell_eq_setRow W b 1 _ _ (0, 0) _ h]
  exact setRow_self W b _ _ _ h
theorem h_col : e_h.f 0 = [⟨0, 0, 1⟩, ⟨1, 0, 1⟩] := by decide
theorem t0_one : turnR ((0 : Nat) : Int) oneR = oneR := by decide
theorem zero65 (w : World) : (zeroValue 65).run Tryz.prog w = .ok (.agg #[.complex .f64 0 0, .complex .f64 0 0]) w := by kernel_rfl
/-- No such key: nought. -/
theorem look0 {W : World} {b n : Nat} {D : DataW Value} (h : W.ownsMap Tryz.prog 23 rd b n D) (k : Nat) (hk : k < 2 ^ 64) (hn : Maps.has D (UK k) = false) : (Instr.lookup 91 (.map (some b)) (.int .u64 k) false).run Tryz.prog W = .ok (.agg #[.complex .f64 0 0, .complex .f64 0 0]) W := by
  obtain ⟨v, ps, hr, hv⟩ := h.lookup law23 Tryz.underlying91 (zero65 W) (zd := .held _) (zp := []) rfl (key := .int .u64 k) (uk_key k hk)
  rw [Maps.atKey_of_not_has hn] at hv
  rw [held_inj hv] at hr
  exact hr
def Dn : Nat → DataW Value
  | 0 => .map []
  | 1 => D1
  | _ => D2
theorem dn_has (i : Nat) (hi : i < 2) : Maps.has (Dn i) (UK i) = false := by
  have h : i = 0 ∨ i = 1 := by omega
  rcases h with rfl | rfl
  · rfl
  · show Maps.has D1 (UK 1) = false
    rw [has_put_other (fun e => by injection e with _ e; omega)]
    rfl
theorem dn_put (i : Nat) (hi : i < 2) : (Dn i).put (UK i) (.held ONE) = Dn (i + 1) := by
  have h : i = 0 ∨ i = 1 := by omega
  rcases h with rfl | rfl <;> rfl
theorem col_at (i : Nat) (hi : i < [(⟨0, 0, 1⟩ : Ce), ⟨1, 0, 1⟩].length) : [(⟨0, 0, 1⟩ : Ce), ⟨1, 0, 1⟩][i] = ⟨i, 0, 1⟩ := by
  have h : i = 0 ∨ i = 1 := by simp at hi; omega
  rcases h with rfl | rfl <;> rfl
theorem row_at (i : Nat) (hi : i < [0, 1].length) : [0, 1][i] = i := by
  have h : i = 0 ∨ i = 1 := by simp at hi; omega
  rcases h with rfl | rfl <;> rfl
theorem g45_calls (w : World) : Calls Tryz.prog 45 #[.agg #[.complex .f64 4607182418800017408 0, .complex .f64 0 0, .int .i64 1]] w fun e w' => e = .returned (.int .i64 0) ∧ Below w.heap.size w w' := by
  have h := turned_calls 0 1 (by decide) w
  rw [t0_one] at h
  simp only [ampV, oneR, fl_one, fl_zero] at h
  exact h
theorem g44_calls (w : World) : Calls Tryz.prog 44 #[ONE, .int .i64 0] w fun e w' => e = .returned (.tuple #[ONE, .int .i64 0]) ∧ Below w.heap.size w w' := by
  have h := rturn_calls oneR 0 oneR_pt w
  have e : turnR 0 oneR = oneR := by decide
  rw [e] at h
  simp only [oneR, fl_one, fl_zero] at h
  exact h
theorem g48_calls (w : World) : Calls Tryz.prog 48 #[.agg #[.complex .f64 0 0, .complex .f64 0 0], ONE] w fun e w' => e = .returned (.tuple #[ONE, .int .i64 0]) ∧ Below w.heap.size w w' := by
  have e : addR nilR oneR = oneR := by decide
  have h := radd_calls nilR oneR nilR_pt oneR_pt (by rw [e]; exact oneR_pt) w
  rw [e] at h
  simp only [nilR, oneR, fl_one, fl_zero] at h
  exact h
theorem hcol_calls (w : World) : Calls Tryz.prog 42 #[.string ⟨#[104]⟩, .int .i64 0] w fun x w' => ∃ a9 c9 a10 c10, x = .returned (.tuple #[.slice a9 2 c9, .slice a10 2 c10, .int .i64 0]) ∧ Ints w' a9 c9 [0, 1] ∧ Amps w' a10 c10 [⟨0, 0, 1⟩, ⟨1, 0, 1⟩] ∧ Below w.heap.size w w' := by
  have h := column_calls e_h (by simp [gates]) 0 (by decide) w
  rw [h_col] at h
  exact h
/-- What the range has left. -/
def Left (left : Lit → Bool) (n : Nat) (D : DataW Value) : Prop := (left = Maps.has D1 ∧ n = 0 ∧ D = .map []) ∨ ((∀ kl, left kl = false) ∧ n = 2 ∧ D = D2)
set_option maxRecDepth 100000 in
set_option maxHeartbeats 4000000 in
theorem sapply_calls (bm b bq cq : Nat) (hcq : cq ≤ 9223372036854775807) (w : World) (h : Spr w bm b 1 0 1 D1) (hq : w.cell? ⟨bq, 0, none⟩ = some (.int .i64 0)) :
    Calls Tryz.prog 17 #[.pointer (some ⟨bm, 0, none⟩), .string ⟨#[104]⟩, .slice (some ⟨bq, 0, none⟩) 1 cq] w fun e w' => e = .returned (.int .i64 0) ∧ ∃ bo, Spr w' bm bo 1 1 2 D2 ∧ But bm w w' := by
  have HO := Lib.hid h.own
  have HBX := Lib.hid h.box
  have HQ := Lib.hid hq
  have m0 := cell_at (i := 0) h.box rfl
  have m2 := cell_at (i := 2) h.box rfl
  have g40 := sfault0_calls bm bq cq hcq w m0 hq
  have g41 := fun w => halves_calls e_h (by simp [gates]) w
  have hmk : ∀ w, Sem.run Tryz.prog (Instr.makeMap 91 none) w = .ok (.map (some w.heap.size)) (w.alloc (.map #[] 0)) := fun w => rfl
  simp only [e_h] at g41
  clear h hq
  go_enter Tryz.func17, Tryz.ntmps17
  go_wp2_with fail
  go_at_call 40
  refine g40.mono ?_
  rintro e w1 ⟨rfl, hb1⟩
  have HB1 := Lib.hid hb1
  clear hb1 g40 m0 m2
  go_wp2_with fail
  go_at_call 41
  refine (g41 _).mono ?_
  rintro e w2 ⟨rfl, hb2⟩
  have HB2 := Lib.hid (HB1.out.trans (hb2.mono HB1.out.size))
  clear HB1 g41 hb2
  have m2 := (HB2.out.cell (p := ⟨bm, 2, none⟩) (Array.getElem?_eq_some_iff.1 HBX.out).1).trans (cell_at (i := 2) HBX.out rfl)
  have mlt := block_lt m2
  go_wp2_with (at_range; refine wpList_range_own _ rfl (.tmp 39) 91 rfl 23 65 law23 Tryz.underlying91 rd b 1 D1 rfl ((HO.out.kept (row := none) (Below.grownBy HB2.out) (by simp)).alloc _) ?_)
  intro w3 hrg hg3 hs3
  have HA : Hid (SA w b (w2.heap.size + 1) w2.heap.size (Maps.has D1) (Maps.size D1) 0 (.map []) w3) := Lib.hid (by
    have hlt := HO.out.lt
    have h9 := HB2.out.size
    exact ⟨(HB2.out.alloc h9 _).trans ⟨hg3.os, hg3.tape, hg3.output, hg3.size, fun k hk => hg3.block k (by simp; omega) (by simp)⟩, hrg, (made_at w2 _ rfl).kept hg3 (by simp), h9, by omega, by omega, by omega⟩)
  clear hrg hg3 hs3 m2 mlt HB2
  generalize w2.heap.size + 1 = it at *
  generalize w2.heap.size = bo at *
  go_wp2_with fail
  go_loopw [10, 11, 12, 13, 14, 15, 16, 17, 18, 19, 20, 21] (fun _ _ _ _ _ _ _ _ _ _ _ _ W => ∃ left cnt n D, Left left n D ∧ SA w b it bo left cnt n D W) (fun _ _ _ _ _ _ _ _ _ _ _ _ W => W.rangeLeft b it)
  case atStart => exact ⟨_, _, _, _, .inl ⟨rfl, rfl, rfl⟩, HA.out⟩
  case round =>
    obtain ⟨left, cnt, n, D, hleft, hst⟩ := hrel
    clear HA
    have HA := Lib.hid hst
    have HL := Lib.hid hleft
    clear hst hleft
    go_wp2_with (at_next; refine wpList_next_ranges _ rfl (.tmp 40) rfl 23 law23 rd (Value.int .u64) id (fun key kl hk => by obtain ⟨x, hx, _⟩ := Maps.keyOf_int_inv Tryz.underlying23 hk; exact ⟨x, hx⟩) (fun v _ _ => ⟨v, rfl⟩) b it 1 D1 left cnt rfl HA.out.rg ?_ ?_)
    · intro hc0 hl0
      have HD : Hid (n = 2 ∧ D = D2) := Lib.hid (by
        rcases HL.out with ⟨h1, -, -⟩ | ⟨-, h2, h3⟩
        · have h4 := hl0 (UK 0)
          rw [h1] at h4
          have h5 : Maps.has D1 (UK 0) = true := has_put_same isMap_empty (uk_isKey 0 (by decide)) _
          rw [h5] at h4
          cases h4
        · exact ⟨h2, h3⟩)
      clear HL hl0 hc0
      obtain ⟨rfl, rfl⟩ := HD.out
      have HBM : Hid (wr.heap[bm]? = some (.cells #[.int .i64 1, .int .i64 0, .map (some b)] 93)) := Lib.hid (Below.heap_some HA.out.below HBX.out)
      have m0 := cell_at (i := 0) HBM.out rfl
      have m1 := cell_at (i := 1) HBM.out rfl
      have m2 := cell_at (i := 2) HBM.out rfl
      have g49 := sformed_calls bo 2 wr HA.out.out
      go_wp2_with fail
      go_at_call 49
      refine g49.mono ?_
      rintro e w4 ⟨rfl, ho4, hb4⟩
      have HO4 := Lib.hid ho4
      have HB4 := Lib.hid (HA.out.below.trans (hb4.mono HA.out.below.size))
      have HBM4 := Lib.hid (Below.heap_some hb4 HBM.out)
      clear ho4 hb4 g49 m0 m1 m2
      have m1 := cell_at (i := 1) HBM4.out rfl
      have m2 := cell_at (i := 2) HBM4.out rfl
      have mf : ∀ i, w4.frozen? ⟨bm, i, none⟩ = false := fun i => free_at HBM4.out
      go_wp2_with fail
      go_ret
      have hne : bm < w.heap.size := (Array.getElem?_eq_some_iff.1 HBX.out).1
      have hge := HA.out.ge
      refine ⟨rfl, bo, ⟨?_, (HO4.out.setCell (by simp; omega) _).setCell (by simp; omega) _⟩, ((But.of HB4.out).setCell (.inl rfl) _).setCell (.inl rfl) _⟩
      rw [setCell_block (setCell_block HBM4.out _) _]
      rfl
    · intro x c kl yd yp w4 cnt2 hkey hlk hv hat hrg2 hlt hg2 hs2 hen
      have HD : Hid (left = Maps.has D1 ∧ n = 0 ∧ D = .map []) := Lib.hid (by
        rcases HL.out with h | ⟨h1, -, -⟩
        · exact h
        · rw [h1] at hlk; cases hlk)
      obtain ⟨rfl, rfl, rfl⟩ := HD.out
      clear HD HL
      have hkl := d1_has kl hlk
      have hy := d1_at kl hlk (.held ONE)
      rw [hat] at hy
      subst hy
      obtain rfl : c = ONE := held_inj hv
      obtain ⟨x', ex, ekl, -⟩ := Maps.keyOf_int_inv Tryz.underlying23 hkey
      injection ex with _ ex
      subst ex
      rw [hkl] at ekl
      injection ekl with _ ekl
      obtain rfl : x = 0 := by omega
      have HL2 : Hid (∀ z, (fun z => Maps.has D1 z && !z.sameKey kl) z = false) := Lib.hid fun z => by
        show (Maps.has D1 z && !z.sameKey kl) = false
        by_cases hz : Maps.has D1 z = true
        · rw [hz, d1_has z hz, hkl]
          decide +kernel
        · rw [Bool.eq_false_iff.2 hz]
          rfl
      have HS : Hid (SA w b it bo (fun z => Maps.has D1 z && !z.sameKey kl) cnt2 0 (.map []) w4) := Lib.hid ⟨HA.out.below.trans ⟨hg2.os, hg2.tape, hg2.output, Nat.le_of_eq hs2.symm, fun k hk => hg2.block k (Nat.lt_of_lt_of_le hk HA.out.below.size) (fun e => by have h8 := Option.some.inj e; have := HA.out.gi; omega)⟩, hrg2, HA.out.out.kept hg2 (by simpa using Ne.symm HA.out.ni), HA.out.ge, HA.out.nb, HA.out.ni, HA.out.gi⟩
      have HCNT : Hid (cnt2 < wr.rangeLeft b it) := Lib.hid (by rw [HA.out.rg.left_eq]; exact hlt)
      clear hrg2 hg2 hs2 hat hv hkey hlk hlt hkl HA ekl
      go_wp2_with fail
      have hq4 : (w4.alloc (.cells #[.complex .f64 4607182418800017408 0, .complex .f64 0 0] 65)).cell? ⟨bq, 0, none⟩ = some (.int .i64 0) := (((HS.out.below.alloc HS.out.below.size _)).cell (p := ⟨bq, 0, none⟩) (block_lt HQ.out)).trans HQ.out
      go_at_call 43
      refine (picked0_calls bq cq _ hq4).mono ?_
      rintro e w5 ⟨rfl, rfl⟩
      go_wp2_with fail
      go_at_call 42
      refine (hcol_calls _).mono ?_
      rintro e w6 ⟨a9, c9, a10, c10, rfl, h9, h10, hb6⟩
      have HX : Hid (SS w b it bo (fun z => Maps.has D1 z && !z.sameKey kl) cnt2 0 (Dn 0) a9 c9 a10 c10 w4.heap.size w6) := Lib.hid ⟨(HS.out.next (below1 _ _)).next hb6, h9, h10, Below.heap_some hb6 (newB _ _ rfl)⟩
      clear HS h9 h10 hb6 hq4
      generalize w4.heap.size = b11 at *
      generalize hl2 : (fun z => Maps.has D1 z && !z.sameKey kl) = left2 at *
      have HL3 : Hid (∀ z, left2 z = false) := Lib.hid fun z => by rw [← hl2]; exact HL2.out z
      clear hl2 HL2
      go_wp2_with fail
      go_loopw [15, 16, 17, 18, 19, 20, 21, 57] (fun _ _ _ _ _ _ _ k W => ∃ i : Nat, i ≤ 2 ∧ k = .int .i64 i ∧ SS w b it bo left2 cnt2 i (Dn i) a9 c9 a10 c10 b11 W) (fun _ _ _ _ _ _ _ k _ => 2 - (intOf k).toNat)
      case atStart => exact ⟨0, by decide, rfl, HX.out⟩
      case round =>
        rename_i wq
        obtain ⟨i, hi, rfl, hst⟩ := hrel
        clear HX
        have HX := Lib.hid hst
        clear hst
        by_cases hlt : i < 2
        · obtain ⟨b9, o9, hb9, hidx9, d9⟩ := HX.out.sl.rows.at i hlt
          obtain ⟨b10, o10, hb10, hidx10, f0, f1, f2⟩ := HX.out.sl.amps.at i hlt
          rw [col_at i hlt] at f0 f1 f2
          rw [row_at i hlt] at d9
          simp only [List.length_cons, List.length_nil, Nat.zero_add, Nat.reduceAdd, Ce.r, t0_one] at hidx9 hidx10 f0 f1 f2
          have q0 := cell_at (i := 0) HX.out.sl.bx rfl
          have q1 := cell_at (i := 1) HX.out.sl.bx rfl
          have kl2 := block_lt q0
          simp only [oneR, fl_one, fl_zero] at f0 f1
          go_upto_region 15 with fail
          go_cut [17, 18] from 58 to 71 (fun v17 v18 W => v18 = .int .i64 0 ∧ ∃ b17, v17 = .pointer (some ⟨b17, 0, none⟩) ∧ SS w b it bo left2 cnt2 i (Dn i) a9 c9 a10 c10 b11 W ∧ Bx W b17 4607182418800017408 0 0 0 ∧ w.heap.size ≤ b17)
          case first =>
            go_region_with (first
              | (go_at_call 45; refine (g45_calls (wr.alloc Z65).drew).mono ?_; rintro e wA ⟨rfl, hA⟩; have HZ : Hid (wA.heap[wr.heap.size]? = some Z65) := Lib.hid (Below.heap_some hA (Below.heap_some (Below.refl _ _).drew (newB _ _ rfl))); have HBA := Lib.hid (((below1 wr Z65).drew).trans (hA.mono (below1 wr Z65).drew.size)); have r0 := (HBA.out.cell (p := ⟨b11, 0, none⟩) kl2).trans q0; have r1 := (HBA.out.cell (p := ⟨b11, 1, none⟩) kl2).trans q1; have rl := block_lt r0)
              | (go_at_call 45; refine (g45_calls wr.drew).mono ?_; rintro e wA ⟨rfl, hA⟩; have HBA := Lib.hid ((Below.refl _ wr).drew.trans hA); have r0 := (HBA.out.cell (p := ⟨b11, 0, none⟩) kl2).trans q0; have r1 := (HBA.out.cell (p := ⟨b11, 1, none⟩) kl2).trans q1; have rl := block_lt r0)
              | (go_at_call 44; refine (g44_calls (wA.alloc Z65)).mono ?_; rintro e wB ⟨rfl, hB⟩; have HZ2 : Hid (wB.heap[wA.heap.size]? = some Z65) := Lib.hid (Below.heap_some hB (newB _ _ rfl)); have HBB := Lib.hid ((HBA.out.alloc HBA.out.size Z65).trans (hB.mono (HBA.out.alloc HBA.out.size Z65).size)); have z0 := cell_at (i := 0) HZ2.out rfl; have z1 := cell_at (i := 1) HZ2.out rfl; have zf : ∀ i, wB.frozen? ⟨wA.heap.size, i, none⟩ = false := fun i => free_at HZ2.out)
              | (go_at_call 44; refine (g44_calls wA).mono ?_; rintro e wB ⟨rfl, hB⟩; have HZ2 := Lib.hid (Below.heap_some hB HZ.out); have HBB := Lib.hid (HBA.out.trans (hB.mono HBA.out.size)); have z0 := cell_at (i := 0) HZ2.out rfl; have z1 := cell_at (i := 1) HZ2.out rfl; have zf : ∀ i, wB.frozen? ⟨wr.heap.size, i, none⟩ = false := fun i => free_at HZ2.out)
              | (go_at_call 44; refine (g44_calls wA).mono ?_; rintro e wB ⟨rfl, hB⟩; have HBB := Lib.hid (HBA.out.trans (hB.mono HBA.out.size))))
            all_goals (go_wp2_with fail; (try simp only [Act.put, List.getElem_toArray, List.getElem_cons_succ, List.getElem_cons_zero, List.setIfInBounds_toArray, List.set_cons_succ, List.set_cons_zero]); go_meet)
            all_goals first
              | exact ⟨rfl, SS.fin1 (HX.out.next HBB.out)⟩
              | exact ⟨rfl, SS.fin2 HX.out HBB.out HZ2.out HBA.out.size⟩
              | exact ⟨rfl, SS.fin2 HX.out HBB.out HZ2.out (Nat.le_refl _)⟩
          case rest =>
            obtain ⟨rfl, b17, rfl, hst, hb17, hge17⟩ := hcut
            clear HX q0 q1 kl2 f0 f1
            have HX2 := Lib.hid hst
            have HB17 := Lib.hid hb17
            clear hst hb17
            have q0 := cell_at (i := 0) HB17.out rfl
            have q1 := cell_at (i := 1) HB17.out rfl
            obtain ⟨b10', o10', hb10', hidx10', f0, f1, f2⟩ := HX2.out.sl.amps.at i hlt
            rw [col_at i hlt] at f0 f1 f2
            simp only [List.length_cons, List.length_nil, Nat.zero_add, Nat.reduceAdd] at hidx10'
            clear f0 f1 hidx10 hidx9
            have hlk := look0 (HX2.out.sa.out) i (by omega) (dn_has i hlt)
            have hq5 := (HX2.out.sa.below.cell (p := ⟨bq, 0, none⟩) (block_lt HQ.out)).trans HQ.out
            have hi01 : i = 0 ∨ i = 1 := by omega
            go_wp2_with fail
            go_at_call 47
            refine (laid0_calls bq cq i hi01 _ hq5).mono ?_
            rintro e w7 ⟨rfl, nd, rfl⟩
            have HX3 := Lib.hid (HX2.out.next (belowD (Below.refl _ wc) nd))
            have HB3 : Hid (Bx (wc.drewN nd) b17 4607182418800017408 0 0 0) := Lib.hid (Below.heap_some (belowD (Below.refl _ wc) nd) HB17.out)
            clear HX2 HB17 q0 q1 hlk hq5 f2 hidx10' hi01
            generalize wc.drewN nd = W3 at *
            have q0 := cell_at (i := 0) HB3.out rfl
            have q1 := cell_at (i := 1) HB3.out rfl
            have hlk := look0 (HX3.out.sa.out) i (by omega) (dn_has i hlt)
            go_wp2_with fail
            go_at_call 48
            refine (g48_calls _).mono ?_
            rintro e w8 ⟨rfl, hb8⟩
            have HX4 := Lib.hid (HX3.out.next hb8)
            have HB4 : Hid (Bx w8 b17 4607182418800017408 0 0 0) := Lib.hid (Below.heap_some hb8 HB3.out)
            clear HX3 HB3 q0 q1 hlk hb8
            have q0 := cell_at (i := 0) HB4.out rfl
            have q1 := cell_at (i := 1) HB4.out rfl
            have qf : ∀ i, w8.frozen? ⟨b17, i, none⟩ = false := fun i => free_at HB4.out
            have hsame := bx_same HB4.out
            go_wp2_with fail
            go_at_call 39
            refine (set1_calls bo i i (by omega) (by omega) (Dn i) w8 HX4.out.sa.out).mono ?_
            rintro e w9 ⟨rfl, ho9, hb9'⟩
            rw [dn_put i hlt] at ho9
            have HX5 := Lib.hid (HX4.out.set ho9 hb9')
            clear HX4 HB4 q0 q1 qf hsame ho9 hb9'
            go_wp2_with fail
            go_roundw
            case rel => exact ⟨i + 1, by omega, by go_num, HX5.out⟩
            case measure => simp [intOf]; omega
        · obtain rfl : i = 2 := by omega
          have HS2 := Lib.hid HX.out.sa
          clear HX
          go_wp2_with fail
          go_roundw
          case rel => exact ⟨left2, cnt2, 2, D2, .inr ⟨HL3.out, rfl, rfl⟩, HS2.out⟩
          case measure => rw [HS2.out.rg.left_eq]; exact HCNT.out
end Go.Proofs.YtlobgpgdknjhlaaGreat.WH
