/- Memos with keys of one kind: Keys, walked. -/
import Derived.Test.YtcpdjbcnhdjojaaMemKI
namespace Go.Proofs.Ytcpdjbcnhdjojaa.MI
open Go.RowKit Go.Maps
set_option linter.unusedVariables false
set_option linter.unusedSimpArgs false

theorem info_e : (Try.prog.info? 47).map (fun i => (i.zero, i.size, i.bytes)) = some (some (.pointer none), 1, 8) := by kernel_rfl
theorem info_k : (Try.prog.info? 3).map (fun i => (i.zero, i.size, i.bytes)) = some (some (.int .i64 0), 1, 8) := by kernel_rfl

section
variable {base : Nat} {w w' : World} {M B : Nat} {room now : Int} {st : List Ent}

def KeysPost (w : World) (st : List Ent) (x : Ending) (w' : World) : Prop :=
  ∃ v b, x = .returned v ∧ w.heap.size ≤ b ∧ w'.ownsRow b 3 1 v st.length (st.map fun e => (Value.int .i64 e.key)) ∧ Below w.heap.size w w'

def Coll (st : List Ent) (D : DataW Unit) (B : Nat) (w : World) (s : Value) (wr : World) : Prop :=
  ∃ left cnt, ∃ js : List (In st), wr.ranges Try.prog 3 pe B w.heap.size st.length D left cnt ∧ wr.ownsRow (w.heap.size + 1) 47 1 s js.length (js.map encI) ∧ Below w.heap.size w wr ∧ w.heap.size + 1 ≤ wr.heap.size ∧ js.Nodup ∧ (∀ x : In st, x ∈ js ↔ left (Lit.int .i64 x.1.key) = false) ∧ js.length + cnt ≤ st.length

theorem Coll.row {r b : Nat} {s : Value} {n : Nat} {xs : List Value} {wr : World} (h : wr.ownsRow b 47 1 s n xs) (hr : r < b) : some r ≠ s.ownBlock := by
  intro e
  have := (h.lt r e.symm).1
  omega

theorem Coll.step {D : DataW Unit} {wr w1 w2 : World} {s v' : Value} {left : Lit → Bool} {cnt cnt' : Nat} {js : List (In st)} (hB : B < w.heap.size)
    (hown : wr.ownsRow (w.heap.size + 1) 47 1 s js.length (js.map encI)) (hbel : Below w.heap.size w wr) (hsz : w.heap.size + 1 ≤ wr.heap.size) (hnd : js.Nodup) (hmem : ∀ x : In st, x ∈ js ↔ left (Lit.int .i64 x.1.key) = false) (hlen : js.length + cnt ≤ st.length)
    (hkeys : st.Pairwise (fun a b => a.key ≠ b.key)) {e : Ent} (he : e ∈ st) (hkok : KOk e.key) (hlk : left (Lit.int .i64 e.key) = true) (hlt : cnt' < cnt) (hgr : wr.grownBy w1 (some w.heap.size)) (hs1 : w1.heap.size = wr.heap.size)
    (hrg1 : w1.ranges Try.prog 3 pe B w.heap.size st.length D (fun z => left z && !z.sameKey (Lit.int .i64 e.key)) cnt')
    (hown2 : w2.ownsRow (w.heap.size + 1) 47 1 v' (js.length + 1) (js.map encI ++ [.pointer (some ⟨e.blk, 0, none⟩)])) (o : Obj) (hgr2 : (w1.alloc o).grownBy w2 s.ownBlock) :
    Coll st D B w v' w2 ∧ w2.rangeLeft B w.heap.size = cnt' := by
  have hr := Coll.row hown (r := w.heap.size) (by omega)
  have hb := Coll.row hown (r := B) (by omega)
  have h2 : w2.ranges Try.prog 3 pe B w.heap.size st.length D (fun z => left z && !z.sameKey (Lit.int .i64 e.key)) cnt' := (hrg1.alloc o).kept hgr2 hb hr
  have hne : ∀ x : In st, x ∈ js → x.1 ≠ e := fun x hx e1 => by
    have := (hmem x).1 hx
    rw [e1, hlk] at this
    cases this
  refine ⟨⟨_, cnt', js ++ [⟨e, he⟩], h2, by simpa [encI] using hown2, ?_, ?_, ?_, fun x => ?_, by simp; omega⟩, h2.left_eq⟩
  · have h3 : Below w.heap.size wr w1 := ⟨hgr.os, hgr.tape, hgr.output, hgr.size, fun i hi => hgr.block i (by have := hbel.size; omega) (fun e1 => by injection e1 with e1; omega)⟩
    have h4 : Below w.heap.size w1 (w1.alloc o) := (Below.refl _ _).alloc (by omega) _
    have h5 : Below w.heap.size (w1.alloc o) w2 := ⟨hgr2.os, hgr2.tape, hgr2.output, hgr2.size, fun i hi => hgr2.block i (by simp; omega) (Coll.row hown (by omega))⟩
    exact ((hbel.trans h3).trans h4).trans h5
  · have h6 := hgr2.size
    simp at h6
    omega
  · rw [List.nodup_append]
    refine ⟨hnd, by simp, fun a ha b hb' => ?_⟩
    simp at hb'
    subst hb'
    intro e1
    exact hne a ha (by rw [e1])
  · rw [List.mem_append, hmem x]
    by_cases hx : x.1 = e
    · have hx' : x = ⟨e, he⟩ := Subtype.ext hx
      subst hx'
      simp [WideAt.sameKey_self (keyLit hkok)]
    · have hk : x.1.key ≠ e.key := fun e1 => hx (keyInj hkeys x.2 he e1)
      rw [Maps.sameKey_ne (fun e1 => hk (lt_inj e1))]
      simp
      intro e1
      exact absurd (by rw [e1]) hx

def Outs (st : List Ent) (W : World) (s6 s28 : Value) (wr : World) : Prop :=
  ∃ i : Nat, i ≤ st.length ∧ s28 = .int .i64 i ∧ wr.ownsRow W.heap.size 3 1 s6 i ((st.take i).map fun e => (Value.int .i64 e.key)) ∧ Below W.heap.size W wr

theorem Outs.step {W wr w2 : World} {s v' : Value} {i : Nat} (hi : i < st.length) (hbel : Below W.heap.size W wr) (hown : wr.ownsRow W.heap.size 3 1 s i ((st.take i).map fun e => (Value.int .i64 e.key)))
    (hown2 : w2.ownsRow W.heap.size 3 1 v' (i + 1) (((st.take i).map fun e => (Value.int .i64 e.key)) ++ [(Value.int .i64 ((st[i]).key))])) (o : Obj) (hgr2 : (wr.alloc o).grownBy w2 s.ownBlock) (n : Value) (hn : n = .int .i64 ((i + 1 : Nat) : Int)) : Outs st W v' n w2 := by
  refine ⟨i + 1, hi, hn, by rw [List.take_succ_eq_append_getElem hi, List.map_append]; exact hown2, ?_⟩
  have h4 : Below W.heap.size wr (wr.alloc o) := (Below.refl _ _).alloc hbel.size _
  have h5 : Below W.heap.size (wr.alloc o) w2 := ⟨hgr2.os, hgr2.tape, hgr2.output, hgr2.size, fun i hi => hgr2.block i (by have := hbel.size; simp; omega) (fun e => by have := (hown.lt i e.symm).1; omega)⟩
  exact (hbel.trans h4).trans h5

theorem eg (args : Array Value) (w : World) : (callFunc 20 args).run Try.prog w = .ok (.enter 20 args) w := enters_of Try.func20 (by kernel_rfl) rfl args w

theorem add_zero (b : Nat) : (⟨b, 0, none⟩ : Addr).add 0 = ⟨b, 0, none⟩ := by
  unfold Addr.add; split <;> simp_all

/-- The sort, at the entries that were collected. -/
theorem sort_calls (h : MemoAt base w M B room now st) {js : List (In st)} {e0 : Ent} (h0 : e0 ∈ st) {wr : World} (hbel : Below w.heap.size w wr) {g cap : Nat} (hown : wr.ownsRow (w.heap.size + 1) 47 1 (.slice (some ⟨g, 0, none⟩) js.length cap) js.length (js.map encI)) (hnd : js.Nodup) (hm : ∀ e : In st, e ∈ js) (hl : js.length ≤ 4096) :
    Calls Try.prog 19 #[.slice (some ⟨g, 0, none⟩) js.length cap, .func (.func 20) #[] #[]] wr fun e w' => e = .returned (.tuple #[]) ∧ js.length = st.length ∧ (∀ (j : Nat) (hj : j < st.length), w'.cell? ⟨g, j, none⟩ = some (.pointer (some ⟨(st[j]).blk, 0, none⟩))) ∧ Below w.heap.size w w' := by
  haveI : Inhabited (In st) := ⟨⟨e0, h0⟩⟩
  have hg := hown.lt g rfl
  have hgb : g < wr.heap.size := hg.2
  have hents : ∀ x : In st, wr.heap[x.1.blk]? = w.heap[x.1.blk]? := fun x => hbel.block _ (h.ltE x.2)
  have hH : Go.Sort.Holds encI wr g 0 js.toArray := fun j hj => by
    have hj' : j < js.length := by simpa using hj
    refine ⟨?_, by rw [Nat.zero_add]; exact hown.frozenAt j⟩
    rw [Nat.zero_add, hown.cellAt j (by omega), getElem!_pos js.toArray j hj]
    simp [hj']
  have hcmp : Go.Proofs.CmpReads Try.prog 20 #[] encI (cfI (st := st)) g 0 js.toArray.size wr := fun m os dk hs x y => by
    refine closure_calls x.1 y.1 _ ?_ ?_
    · unfold EntAt
      rw [sortWorld_other _ _ _ _ _ _ _ (by have := h.ltE x.2; have := hbel.size; omega) (by have := h.ltE x.2; omega), hents x]
      exact h.ents _ x.2
    · unfold EntAt
      rw [sortWorld_other _ _ _ _ _ _ _ (by have := h.ltE y.2; have := hbel.size; omega) (by have := h.ltE y.2; omega), hents y]
      exact h.ents _ y.2
  have hcon := Go.Proofs.Any.slices_SortFunc Go.Proofs.Try.sortI encI (fun _ => rfl) (cfI (st := st)) swoI 20 #[] g 0 cap js.toArray wr eg hcmp.lays hH hgb (by simp; omega)
  change Calls Try.prog 19 _ _ _ at hcon
  rw [show js.toArray.size = js.length from by simp] at hcon
  refine hcon.mono ?_
  rintro e w' ⟨rfl, d', n, os, hp, hs, rfl⟩
  have hst := sorted_is h.desc hnd hm (by simpa using hp) (by simpa using hs)
  have hsz : d'.size = js.length := hp.1.trans (by simp)
  have hlen : js.length = st.length := by have h8 := congrArg List.length hst; simp only [List.length_map, Array.length_toList, hsz] at h8; exact h8
  refine ⟨rfl, hlen, fun j hj => ?_, hbel.trans (sortWorld_below encI wr g 0 n d' os (by omega) hgb)⟩
  have hh := (Go.Proofs.holds_sortWorld encI wr g 0 n js.toArray d' os hgb hH (by simp [hsz])) j (by omega)
  rw [Nat.zero_add] at hh
  have hj' : j < d'.size := by omega
  rw [hh.1, getElem!_pos d' j hj']
  have : st[j] = (d'[j]'hj').1 := by
    have h7 : st[j]? = (d'.toList.map (·.1))[j]? := by rw [hst]
    simp [hj, hj'] at h7
    exact h7
  rw [this]
  rfl

set_option maxRecDepth 100000 in
theorem Keys_nil (w : World) : Calls Try.prog 10 #[.pointer none] w fun x w' => x = .returned (.slice none 0 0) ∧ w' = w := by
  go_enter Try.func10, Try.ntmps10
  go_wp2
  go_ret
  exact ⟨rfl, rfl⟩

set_option maxRecDepth 100000 in
set_option maxHeartbeats 4000000 in
theorem Keys_some (h : MemoAt base w M B room now st) {e0 : Ent} (he0 : e0 ∈ st) (hl : st.length ≤ 4096) :
    Calls Try.prog 10 #[.pointer (some ⟨M, 0, none⟩)] w (KeysPost w st) := by
  obtain ⟨i0, hi, hz0, hz1, hz2⟩ := info_parts info_e
  obtain ⟨i1, hi', hz0', hz1', hz2'⟩ := info_parts info_k
  obtain ⟨c0, c1, c2, cf⟩ := h.cells
  obtain ⟨D, hown, hD2, hD3, hD4⟩ := h.map
  obtain ⟨w0, hrunR, hrg0, hg0, hs0⟩ := hown.range law Try.underlying43
  have HM : Hid _ := Lib.hid h
  have HD : Hid _ := Lib.hid (And.intro hD2 (And.intro hD3 hD4))
  have hBs := h.ltB
  have hst : Coll st D B w (.slice none 0 0) w0 := ⟨_, _, [], hrg0, World.ownsRow_nil _ _ _ _, ⟨hg0.os, hg0.tape, hg0.output, hg0.size, fun i hi => hg0.block i hi (by simp)⟩, by omega, List.nodup_nil, fun x => by simp [Maps.has_true_of_atKey (hD3 x.1 x.2)], by simp [hD2]⟩
  have HST : Hid _ := Lib.hid hst
  clear h hD2 hD3 hD4 hown hrg0 hg0 hs0 hst
  go_enter Try.func10, Try.ntmps10
  go_wp2
  go_loopw [3] (fun s wr => Coll st D B w s wr) (fun _ wr => wr.rangeLeft B w.heap.size)
  case atStart => exact HST.out
  case round =>
    clear HST hrunR
    obtain ⟨left, cnt, js, hrg, hown, hbel, hsz, hnd, hmem, hlen⟩ := hrel
    rcases hrg.next law 0 with ⟨hc0, hl0, hrunN⟩ | ⟨key, v', kl, y, w1, cnt', hkey, hlk', hv, hat, hrunN, hrg1, hlt, hgr, hsz1, hen⟩
    · have hall : ∀ e : In st, e ∈ js := fun e => (hmem e).2 (hl0 _)
      have hj1 : 1 ≤ js.length := List.length_pos_of_mem (hall ⟨e0, he0⟩)
      have hjl : js.length ≤ 4096 := by omega
      obtain ⟨g, cap, rfl⟩ : ∃ g cap, u3 = .slice (some ⟨g, 0, none⟩) js.length cap := by
        rcases hown.2 with ⟨_, hnil⟩ | ⟨g, cap, cur, e, _⟩
        · simp at hnil
          rw [hnil] at hj1
          simp at hj1
        · exact ⟨g, cap, e⟩
      have hsort := sort_calls HM.out he0 hbel hown hnd hall hjl
      have HLE : Hid _ := Lib.hid hl
      clear hl0 hall hrg hown hbel hsz hnd hmem hlen hl
      go_wp2_with (go_at_call 19; refine hsort.mono ?_; rintro e W ⟨rfl, hlen, hcells, hbW⟩)
      have HC : Hid _ := Lib.hid hcells
      have HE : Hid _ := Lib.hid (fun (j : Nat) (hj : j < st.length) => (HM.out.below hbW).ents st[j] (List.getElem_mem hj))
      have HBW : Hid _ := Lib.hid hbW
      obtain ⟨n, hn⟩ : ∃ n, n = st.length := ⟨_, rfl⟩
      rw [← hn]
      have HN : Hid _ := Lib.hid hn
      have hn4 : n ≤ 4096 := by have := HLE.out; omega
      clear hcells hbW hsort hlen hn hj1 hjl
      have hgW : g < W.heap.size := by
        have h1 := HC.out 0 (by have := HN.out; have := List.length_pos_of_mem he0; omega)
        obtain ⟨c, e, fr, hh, _⟩ := Go.Sort.cells_of_cell? h1
        exact lt_of_block hh
      clear c0 c1 c2 cf hrunN hc0
      go_loopw [6, 28] (fun s6 s28 wr2 => Outs st W s6 s28 wr2) (fun _ s28 _ => n - (intOf s28).toNat)
      case atStart => exact ⟨0, Nat.zero_le _, rfl, World.ownsRow_nil _ _ _ _, Below.refl _ _⟩
      case round =>
        obtain ⟨i, hin, rfl, hown, hbel⟩ := hrel
        by_cases hlt : i < n
        · have hli : i < st.length := by have := HN.out; omega
          have hcl := (hbel.cell (p := ⟨g, i, none⟩) hgW).trans (HC.out i hli)
          have hek : wr.cell? ⟨(st[i]).blk, 0, none⟩ = some (Value.int .i64 ((st[i]).key)) := cell_of ((hbel.block _ (lt_of_block (HE.out i hli))).trans (HE.out i hli)) rfl
          have HS : Hid _ := Lib.hid (fun v' w3 hown2 o hgr2 n hn => Outs.step (w2 := w3) (v' := v') hli hbel hown hown2 o hgr2 n hn)
          have hWw := hbel.size
          generalize st[i] = e at hcl hek HS
          clear hli hbel
          go_wp2_with (at_builtin; refine wpList_append_own _ rfl _ _ 30 rfl W.heap.size 3 i1 (.int .i64 0) 1 8 Try.underlying30 hi' hz0' hz1' hz2' rfl (by decide) _ _ _ rfl (hown.alloc _) ⟨wr.heap.size, 0, none⟩ 1 1 [(Value.int .i64 e.key)] rfl rfl ?c1 ?c2 ?c3 ?c4 ?c5 ?_)
          case c1 => intro j u hu; cases j with
            | zero =>
              simp at hu; subst hu
              rw [add_zero]; exact cell_of ((MapKept.heap_alloc wr _).1) rfl
            | succ j => simp at hu
          case c2 => simp [Value.oneCell']
          case c3 => unfold maxLen; omega
          case c4 => omega
          case c5 => simp; omega
          intro v' w3 hown2 hgr2 _
          have HC2 : Hid _ := Lib.hid (HS.out v' w3 (by rw [List.map_take]; exact hown2) _ hgr2 _ rfl)
          clear hown2 hgr2 hown
          go_wp2
          go_roundw
          case rel => exact HC2.out
          case measure => simp [intOf]; omega
        · have hin' : i = st.length := by have := HN.out; omega
          have HO : Hid _ := Lib.hid hown
          have HBL : Hid _ := Lib.hid hbel
          have HIN : Hid _ := Lib.hid hin'
          clear hown hbel hin' hin
          go_wp2
          go_ret
          refine ⟨_, W.heap.size, rfl, HBW.out.size, ?_, HBW.out.trans (HBL.out.mono HBW.out.size)⟩
          have h9 := HO.out
          rw [HIN.out, List.take_length] at h9
          exact h9
    · obtain ⟨e, he, rfl⟩ : ∃ e ∈ st, (Lit.int .i64 e.key) = kl := by
        apply Classical.byContradiction
        intro hne
        have := HD.out.2.2 kl fun e he e1 => hne ⟨e, he, e1⟩
        rw [Maps.has_true_of_atKey hat] at this
        cases this
      have hy := hat .nil
      rw [HD.out.2.1 e he] at hy
      have hv' : v' = .pointer (some ⟨e.blk, 0, none⟩) := pe_block (ps := y.2) (by rw [hv, hy])
      subst hv'
      have hown1 : w1.ownsRow (w.heap.size + 1) 47 1 u3 js.length (js.map encI) := hown.kept hgr (.inr (Ne.symm (Coll.row hown (by omega))))
      have hjl : js.length + 1 ≤ 4096 := by omega
      have hw1 : w.heap.size + 1 ≤ w1.heap.size := by omega
      have HK : Hid _ := Lib.hid (HM.out.kok e he)
      have HS : Hid _ := Lib.hid (fun v' w2 hown2 o hgr2 => Coll.step (w2 := w2) (v' := v') hBs hown hbel hsz hnd hmem hlen HM.out.keys he (HM.out.kok e he) hlk' hlt hgr hsz1 hrg1 hown2 o hgr2)
      have HL : Hid _ := Lib.hid hrg.left_eq
      clear hown hbel hsz hnd hmem hlen hlk' hgr hsz1 hrg1 hrg hv hy hat hkey
      go_wp2_with (at_builtin; refine wpList_append_own _ rfl _ _ 52 rfl (w.heap.size + 1) 47 i0 (.pointer none) 1 8 Try.underlying52 hi hz0 hz1 hz2 rfl (by decide) _ _ _ rfl (hown1.alloc _) ⟨w1.heap.size, 0, none⟩ 1 1 [.pointer (some ⟨e.blk, 0, none⟩)] rfl rfl ?c1 ?c2 ?c3 ?c4 ?c5 ?_)
      case c1 => intro j u hu; cases j with
        | zero =>
          simp at hu; subst hu
          rw [add_zero]; exact cell_of ((MapKept.heap_alloc w1 _).1) rfl
        | succ j => simp at hu
      case c2 => simp [Value.oneCell']
      case c3 => unfold maxLen; omega
      case c4 => omega
      case c5 => simp; omega
      intro v' w2 hown2 hgr2 _
      obtain ⟨hC, hM⟩ := HS.out v' w2 hown2 _ hgr2
      have HC : Hid _ := Lib.hid hC
      have HME : Hid _ := Lib.hid hM
      clear hC hM hown2 hgr2 hown1
      go_wp2
      go_roundw
      case rel => exact HC.out
      case measure => rw [HL.out, HME.out]; exact hlt
end
end Go.Proofs.Ytcpdjbcnhdjojaa.MI
