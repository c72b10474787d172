/- The document's Check of any circuit, walked. -/
import Derived.Test.YtlobgpgdknjhlaaGreatWhX
namespace Go.Proofs.YtlobgpgdknjhlaaGreat.WH
open Go Go.RowKit Go.Proofs.YtlobgpgdknjhlaaGreat.F
set_option linter.unusedVariables false
set_option linter.unusedSimpArgs false
attribute [local go_sem] run_store_complex run_store_func
def haN (name : ByteArray) : Nat := ((gates.find? fun e => decide (e.name = name)).map (·.ha)).getD 0
theorem haN_gate : ∀ e ∈ gates, haN e.name = e.ha := by decide +kernel
theorem haN_none {s : ByteArray} (h : ∀ n ∈ gnames, s ≠ n) : haN s = 0 := by
  unfold haN
  rw [List.find?_eq_none.2 fun e he => by
    simp only [decide_eq_true_eq]
    intro e1
    exact h e.name (by rw [← gnames_of]; exact List.mem_map_of_mem (f := (·.name)) he) e1.symm]
  rfl
theorem haN_le (s : ByteArray) : haN s ≤ 1 := by
  rcases gname_or s with ⟨e, he, rfl⟩ | h
  · rw [haN_gate e he]; exact ha_le e he
  · rw [haN_none h]; decide
set_option maxRecDepth 100000 in
theorem rhalves_none (s : ByteArray) (h : ∀ n ∈ gnames, s ≠ n) (w : World) : Calls Tryz.prog 60 #[.string s] w fun x w' => x = .returned (.int .i64 0) ∧ w' = w := by
  have n1 : (s.toList == [104]) = false := ne_list s (⟨#[104]⟩ : ByteArray) [104] (by decide +kernel) (h _ (by simp [gnames]))
  have n2 : (s.toList == [118]) = false := ne_list s (⟨#[118]⟩ : ByteArray) [118] (by decide +kernel) (h _ (by simp [gnames]))
  have n3 : (s.toList == [118, 100, 103]) = false := ne_list s (⟨#[118, 100, 103]⟩ : ByteArray) [118, 100, 103] (by decide +kernel) (h _ (by simp [gnames]))
  have n4 : (s.toList == [99, 104]) = false := ne_list s (⟨#[99, 104]⟩ : ByteArray) [99, 104] (by decide +kernel) (h _ (by simp [gnames]))
  clear h
  go_enter Tryz.func60, Tryz.ntmps60
  go_wp2_with fail
  go_ret
  exact ⟨rfl, rfl⟩
theorem rhalves_any (s : ByteArray) (w : World) : Calls Tryz.prog 60 #[.string s] w fun x w' => x = .returned (.int .i64 (haN s)) ∧ w' = w := by
  rcases gname_or s with ⟨e, he, rfl⟩ | h
  · rw [haN_gate e he]; exact rhalves_calls e he w
  · rw [haN_none h]; exact rhalves_none s h w
def hOf (kind : Int) (name : ByteArray) : Nat := if kind = 1 then haN name else 0
set_option maxRecDepth 100000 in
theorem rh_calls (kind bit : Int) (name : ByteArray) (aq : Option Addr) (ql cq mask val : Nat) (iff : Bool) (w : World) : Calls Tryz.prog 27 #[.agg #[.int .i64 kind, .string name, .slice aq ql cq, .int .i64 bit, .bool iff, .int .u64 mask, .int .u64 val]] w fun x w' => x = .returned (.int .i64 (hOf kind name)) ∧ Below w.heap.size w w' := by
  have g := rhalves_any name
  by_cases hk : kind = 1
  · have e : hOf kind name = haN name := if_pos hk
    rw [e]
    subst hk
    clear e
    generalize haN name = h at *
    go_enter Tryz.func27, Tryz.ntmps27
    go_wp2_with fail
    go_at_call 60
    refine (g _).mono ?_
    rintro x w1 ⟨rfl, rfl⟩
    go_wp2_with fail
    go_ret
    exact ⟨rfl, below1 _ _⟩
  · have e : hOf kind name = 0 := if_neg hk
    have hk1 : (kind == 1) = false := by rw [beq_eq_false_iff_ne]; exact hk
    rw [e]
    go_enter Tryz.func27, Tryz.ntmps27
    go_wp2_with fail
    go_ret
    exact ⟨rfl, below1 _ _⟩
/-- The seven cells of any operation. -/
structure CellQ (W : World) (b o : Nat) (g : Oq) : Prop where
  c0 : W.cell? ⟨b, o, none⟩ = some (.int .i64 g.kind)
  c1 : W.cell? ⟨b, o + 1, none⟩ = some (.string g.name)
  c2 : W.cell? ⟨b, o + 2, none⟩ = some (.slice g.aq g.qs.length g.cq)
  c3 : W.cell? ⟨b, o + 3, none⟩ = some (.int .i64 g.bit)
  c4 : W.cell? ⟨b, o + 4, none⟩ = some (.bool g.iff)
  c5 : W.cell? ⟨b, o + 5, none⟩ = some (.int .u64 g.mask)
  c6 : W.cell? ⟨b, o + 6, none⟩ = some (.int .u64 g.val)
/-- Any circuit's operations. -/
structure CircQ (W : World) (a : Option Addr) (c : Nat) (gs : List Oq) : Prop where
  len : gs.length ≤ c
  cap : c ≤ 9223372036854775807
  ints : ∀ g ∈ gs, IntsZ W g.aq g.cq g.qs
  at_ : gs = [] ∨ ∃ b off, a = some ⟨b, off, none⟩ ∧ ∀ (j : Nat) (h : j < gs.length), CellQ W b (off + j * 7) gs[j]
theorem CellQ.below {w w' : World} {b o : Nat} {g : Oq} (h : CellQ w b o g) (hb : Below w.heap.size w w') : CellQ w' b o g :=
  ⟨(hb.cell (p := ⟨b, o, none⟩) (block_lt h.c0)).trans h.c0, (hb.cell (p := ⟨b, o + 1, none⟩) (block_lt h.c0)).trans h.c1, (hb.cell (p := ⟨b, o + 2, none⟩) (block_lt h.c0)).trans h.c2, (hb.cell (p := ⟨b, o + 3, none⟩) (block_lt h.c0)).trans h.c3, (hb.cell (p := ⟨b, o + 4, none⟩) (block_lt h.c0)).trans h.c4, (hb.cell (p := ⟨b, o + 5, none⟩) (block_lt h.c0)).trans h.c5, (hb.cell (p := ⟨b, o + 6, none⟩) (block_lt h.c0)).trans h.c6⟩
theorem CircQ.below {w w' : World} {a : Option Addr} {c : Nat} {gs : List Oq} (h : CircQ w a c gs) (hb : Below w.heap.size w w') : CircQ w' a c gs :=
  ⟨h.len, h.cap, fun g hg => (h.ints g hg).below hb, h.at_.imp id fun ⟨b, off, e, hc⟩ => ⟨b, off, e, fun j hj => (hc j hj).below hb⟩⟩
theorem CircQ.at {w : World} {a : Option Addr} {c : Nat} {gs : List Oq} (h : CircQ w a c gs) (j : Nat) (hj : j < gs.length) :
    ∃ b o, b < w.heap.size ∧ (∀ W, (Instr.indexAt 29 (Value.slice a gs.length c) (.int .i64 j)).run Tryz.prog W = .ok (.pointer (some ⟨b, o, none⟩)) W) ∧ CellQ w b o gs[j] := by
  rcases h.at_ with rfl | ⟨b, off, rfl, hc⟩
  · simp at hj
  · refine ⟨b, off + j * 7, block_lt (hc j hj).c0, fun W => ?_, hc j hj⟩
    have hs : ∀ W, (Go.sizeOf (Tryz.prog.elem 29)).run Tryz.prog W = .ok 7 W := fun _ => by kernel_rfl
    rw [run_indexAt_slice _ 29 _ _ _ _ _ (by kernel_rfl), if_pos ⟨by omega, by exact_mod_cast hj⟩, hs]
    simp [Result.andThen, Addr.add]
def sumQ (gs : List Oq) : Nat := (gs.map fun g => hOf g.kind g.name).sum
theorem sumQ_take (gs : List Oq) {j : Nat} (hj : j < gs.length) : sumQ (gs.take (j + 1)) = sumQ (gs.take j) + hOf gs[j].kind gs[j].name := by
  unfold sumQ
  rw [List.take_add_one, List.getElem?_eq_getElem hj, List.map_append, List.sum_append]
  simp
def Oq.Fine (n : Int) (g : Oq) : Prop := WH.Fine n g.kind g.name g.qs g.bit g.iff g.mask g.val
/-- A circuit without an error. -/
structure CkOk (n b : Int) (gs : List Oq) : Prop where
  n0 : 0 ≤ n
  n1 : n ≤ 64
  b0 : 0 ≤ b
  b1 : b ≤ 64
  len : gs.length ≤ 4096
  fine : ∀ i (h : i < gs.length), gs[i].Fine n
  sum : sumQ gs ≤ 36
def CkRes (n b : Int) (gs : List Oq) (e : Int) : Prop := e = 0 → CkOk n b gs
theorem CkRes.err {n b : Int} {gs : List Oq} {e : Int} (h : e ≠ 0) : CkRes n b gs e := fun h' => absurd h' h
theorem hOf_le (k : Int) (s : ByteArray) : hOf k s ≤ 1 := by
  unfold hOf
  split
  · exact haN_le s
  · decide
set_option maxRecDepth 100000 in
set_option maxHeartbeats 4000000 in
theorem rcheck_any (n b : Int) (a : Option Addr) (c : Nat) (gs : List Oq) (w : World) (h : CircQ w a c gs) : Calls Tryz.prog 8 #[.agg #[.int .i64 n, .int .i64 b, .slice a gs.length c]] w fun x w' => ∃ i e : Int, x = .returned (.tuple #[.int .i64 i, .int .i64 e]) ∧ CkRes n b gs e ∧ Below w.heap.size w w' := by
  have HC := Lib.hid h
  have HS := Lib.hid (BoxSt.start w #[.int .i64 n, .int .i64 b, .slice a gs.length c] 31)
  have hlc : (gs.length : Int) ≤ 9223372036854775807 := by have := h.len; have := h.cap; omega
  clear h
  by_cases h1 : n < 0
  · have d1 : decide (n < 0) = true := decide_eq_true h1
    go_enter Tryz.func8, Tryz.ntmps8
    go_wp2_with fail
    refine bodyPost_ret (v := .tuple #[.int .i64 0, .int .i64 2]) (by simp [results, Tryz.results8, go_sem, *]) rfl ⟨_, _, rfl, CkRes.err (by decide), below1 _ _⟩
  have d1 : decide (n < 0) = false := decide_eq_false h1
  by_cases h2 : 64 < n
  · have d2 : decide (64 < n) = true := decide_eq_true h2
    go_enter Tryz.func8, Tryz.ntmps8
    go_wp2_with fail
    refine bodyPost_ret (v := .tuple #[.int .i64 0, .int .i64 2]) (by simp [results, Tryz.results8, go_sem, *]) rfl ⟨_, _, rfl, CkRes.err (by decide), below1 _ _⟩
  have d2 : decide (64 < n) = false := decide_eq_false h2
  by_cases h3 : b < 0
  · have d3 : decide (b < 0) = true := decide_eq_true h3
    go_enter Tryz.func8, Tryz.ntmps8
    go_wp2_with fail
    refine bodyPost_ret (v := .tuple #[.int .i64 0, .int .i64 2]) (by simp [results, Tryz.results8, go_sem, *]) rfl ⟨_, _, rfl, CkRes.err (by decide), below1 _ _⟩
  have d3 : decide (b < 0) = false := decide_eq_false h3
  by_cases h4 : 64 < b
  · have d4 : decide (64 < b) = true := decide_eq_true h4
    go_enter Tryz.func8, Tryz.ntmps8
    go_wp2_with fail
    refine bodyPost_ret (v := .tuple #[.int .i64 0, .int .i64 2]) (by simp [results, Tryz.results8, go_sem, *]) rfl ⟨_, _, rfl, CkRes.err (by decide), below1 _ _⟩
  have d4 : decide (64 < b) = false := decide_eq_false h4
  by_cases h5 : (4096 : Int) < gs.length
  · have d5 : decide ((4096 : Int) < gs.length) = true := decide_eq_true h5
    go_enter Tryz.func8, Tryz.ntmps8
    go_wp2_with fail
    refine bodyPost_ret (v := .tuple #[.int .i64 0, .int .i64 115]) (by simp [results, Tryz.results8, go_sem, *]) rfl ⟨_, _, rfl, CkRes.err (by decide), below1 _ _⟩
  have d5 : decide ((4096 : Int) < gs.length) = false := decide_eq_false h5
  go_enter Tryz.func8, Tryz.ntmps8
  go_wp2_with fail
  generalize w.alloc (.cells #[.int .i64 n, .int .i64 b, .slice a gs.length c] 31) = W1 at *
  go_loopw [4, 5, 6] (fun v4 k _ W => ∃ j : Nat, j ≤ gs.length ∧ k = .int .i64 j ∧ v4 = .int .i64 (sumQ (gs.take j)) ∧ sumQ (gs.take j) ≤ 36 ∧ (∀ i (h : i < gs.length), i < j → gs[i].Fine n) ∧ BoxSt w #[.int .i64 n, .int .i64 b, .slice a gs.length c] 31 W) (fun _ k _ _ => gs.length - (intOf k).toNat)
  case atStart => exact ⟨0, Nat.zero_le _, rfl, rfl, Nat.zero_le _, fun i _ h => absurd h (Nat.not_lt_zero _), HS.out⟩
  case round =>
    obtain ⟨j, hj, rfl, rfl, hsum, hall, hst⟩ := hrel
    clear HS
    have HS := Lib.hid hst
    have HALL := Lib.hid hall
    have HSUM := Lib.hid hsum
    clear hst hall hsum
    have p0 := cell_at (i := 0) HS.out.blk rfl
    have p1 := cell_at (i := 1) HS.out.blk rfl
    have p2 := cell_at (i := 2) HS.out.blk rfl
    by_cases hlt : j < gs.length
    · obtain ⟨bo, oo, hbl, hidx, c0, c1, c2, c3, c4, c5, c6⟩ := (HC.out.below HS.out.below).at j hlt
      have HIN := Lib.hid (HC.out.ints _ (List.getElem_mem hlt))
      have HT := Lib.hid (sumQ_take gs hlt)
      have hle := HSUM.out
      have hho := hOf_le gs[j].kind gs[j].name
      have HJ : Hid (gs[j].Fine n → ∀ i (h : i < gs.length), i < j + 1 → gs[i].Fine n) := Lib.hid fun h i hi hij => by
        by_cases e : i = j
        · subst e; exact h
        · exact HALL.out i hi (by omega)
      have HFI : Hid (∀ e, FineOk n gs[j].kind gs[j].name gs[j].qs gs[j].bit gs[j].iff gs[j].mask gs[j].val e → e = 0 → gs[j].Fine n) := Lib.hid fun e h h0 => h h0
      generalize gs[j] = g at *
      have g26 : ∀ w, IntsZ w g.aq g.cq g.qs → Calls Tryz.prog 26 #[.agg #[.int .i64 g.kind, .string g.name, .slice g.aq g.qs.length g.cq, .int .i64 g.bit, .bool g.iff, .int .u64 g.mask, .int .u64 g.val], .int .i64 n, .int .i64 b] w fun x w' => ∃ e : Int, x = .returned (.int .i64 e) ∧ FineOk n g.kind g.name g.qs g.bit g.iff g.mask g.val e ∧ Below w.heap.size w w' := fun w h => by
        by_cases hk : g.kind = 1
        · rw [hk]; exact rfault1_calls n b g.bit g.name g.aq g.cq g.mask g.val g.iff g.qs w h
        · exact rfaultN_calls n b g.kind g.bit g.name g.aq g.cq g.mask g.val g.iff g.qs w h hk
      have g27 := fun w => rh_calls g.kind g.bit g.name g.aq g.qs.length g.cq g.mask g.val g.iff w
      generalize sumQ (gs.take j) = sj at *
      generalize hOf g.kind g.name = ho at *
      go_wp2_with fail
      go_still_tail 9, (by kernel_rfl)
      change wpList _ _ _ _ _ wr.drew
      have HS2 := Lib.hid (HS.out.next (Below.refl _ wr).drew)
      clear p0 p1 p2
      generalize hwd : wr.drew = w2 at HS2 ⊢
      go_wp2_with fail
      go_at_call 26
      refine (g26 _ (by rw [← hwd]; exact (HIN.out.below HS.out.below).below (Below.refl _ wr).drew)).mono ?_
      rintro x w3 ⟨e, rfl, hfe, hb3⟩
      have HS3 := Lib.hid (HS2.out.next hb3)
      have HCG := Lib.hid (And.intro ((HC.out.below HS.out.below).below (Below.refl _ wr).drew) hfe)
      rw [hwd] at HCG
      have HCB : Hid (Below wr.heap.size wr w3) := Lib.hid ((Below.refl _ wr).drew.trans (by rw [hwd]; have h := hb3; rw [← hwd] at h ⊢; exact h))
      clear hb3 hfe HS2 hwd
      have p0 := cell_at (i := 0) HS3.out.blk rfl
      have p1 := cell_at (i := 1) HS3.out.blk rfl
      have p2 := cell_at (i := 2) HS3.out.blk rfl
      have k0 := (HCB.out.cell (p := ⟨bo, oo, none⟩) hbl).trans c0
      have k1 := (HCB.out.cell (p := ⟨bo, oo + 1, none⟩) hbl).trans c1
      have k2 := (HCB.out.cell (p := ⟨bo, oo + 2, none⟩) hbl).trans c2
      have k3 := (HCB.out.cell (p := ⟨bo, oo + 3, none⟩) hbl).trans c3
      have k4 := (HCB.out.cell (p := ⟨bo, oo + 4, none⟩) hbl).trans c4
      have k5 := (HCB.out.cell (p := ⟨bo, oo + 5, none⟩) hbl).trans c5
      have k6 := (HCB.out.cell (p := ⟨bo, oo + 6, none⟩) hbl).trans c6
      clear c0 c1 c2 c3 c4 c5 c6
      by_cases he : e = 0
      · subst he
        have HFJ := Lib.hid (HJ.out (HFI.out 0 HCG.out.2 rfl))
        clear HFI HJ
        go_wp2_with fail
        go_at_call 27
        refine (g27 _).mono ?_
        rintro x w4 ⟨rfl, hb4⟩
        have HS4 := Lib.hid (HS3.out.next hb4)
        clear hb4 p0 p1 p2 k0 k1 k2 k3 k4 k5 k6
        by_cases hgt : (36 : Int) < (sj : Int) + (ho : Int)
        · have d : decide ((36 : Int) < (sj : Int) + (ho : Int)) = true := decide_eq_true hgt
          go_wp2_with fail
          refine bodyPost_ret (v := .tuple #[.int .i64 j, .int .i64 116]) (by simp [results, Tryz.results8, go_sem, *]) rfl ⟨_, _, rfl, CkRes.err (by decide), HS4.out.below⟩
        · have d : decide ((36 : Int) < (sj : Int) + (ho : Int)) = false := decide_eq_false hgt
          go_wp2_with fail
          go_roundw
          case rel => exact ⟨j + 1, by omega, by go_num, by rw [HT.out]; go_num, by rw [HT.out]; omega, HFJ.out, HS4.out⟩
          case measure => simp [intOf]; omega
      · have he1 : (e != 0) = true := by simpa using he
        go_wp2_with fail
        refine bodyPost_ret (v := .tuple #[.int .i64 j, .int .i64 e]) (by simp [results, Tryz.results8, go_sem, *]) rfl ⟨_, _, rfl, CkRes.err he, HS3.out.below⟩
    · obtain rfl : j = gs.length := by omega
      have hs := HSUM.out
      rw [List.take_length] at hs
      have HOKK : Hid (CkOk n b gs) := Lib.hid ⟨by omega, by omega, by omega, by omega, by omega, fun i h => HALL.out i h h, hs⟩
      clear hs
      go_wp2_with fail
      refine bodyPost_ret (v := .tuple #[.int .i64 0, .int .i64 0]) (by simp [results, Tryz.results8, go_sem, *]) rfl ⟨_, _, rfl, fun _ => HOKK.out, HS.out.below⟩
end Go.Proofs.YtlobgpgdknjhlaaGreat.WH
