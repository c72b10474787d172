/- The document's Clean, and small, at any circuit: walked. -/
import Derived.Test.YtlobgpgdknjhlaaGreatWhAM
namespace Go.Proofs.YtlobgpgdknjhlaaGreat.WH
open Go Go.RowKit Go.Proofs.YtlobgpgdknjhlaaGreat.F
set_option linter.unusedVariables false
set_option linter.unusedSimpArgs false
attribute [local go_sem] run_store_complex run_store_func
/-- Gates alone, without conditions. -/
def CleanQ (gs : List Oq) : Prop := ∀ i (h : i < gs.length), gs[i].kind = 1 ∧ gs[i].iff = false
set_option maxRecDepth 100000 in
set_option maxHeartbeats 4000000 in
theorem rclean_any (n b : Int) (a : Option Addr) (c : Nat) (gs : List Oq) (w : World) (h : CircQ w a c gs) : Calls Tryz.prog 35 #[.agg #[.int .i64 n, .int .i64 b, .slice a gs.length c]] w fun x w' => ∃ (cl : Bool) (e : Int), x = .returned (.tuple #[.bool cl, .int .i64 e]) ∧ (cl = true → CleanQ gs) ∧ Below w.heap.size w w' := by
  have HC := Lib.hid h
  have HS := Lib.hid (BoxSt.start w #[.int .i64 n, .int .i64 b, .slice a gs.length c] 31)
  have hlc : (gs.length : Int) ≤ 9223372036854775807 := by have := h.len; have := h.cap; omega
  have g8 := fun w h => rcheck_any n b a c gs w h
  clear h
  go_enter Tryz.func35, Tryz.ntmps35
  go_wp2_with fail
  generalize w.alloc (.cells #[.int .i64 n, .int .i64 b, .slice a gs.length c] 31) = W1 at *
  go_at_call 8
  refine (g8 _ (HC.out.below HS.out.below)).mono ?_
  rintro x w2 ⟨i0, e, rfl, -, hb2⟩
  have HS2 := Lib.hid (HS.out.next hb2)
  clear hb2 HS
  by_cases he : e = 0
  · subst he
    go_wp2_with fail
    go_loopw [6] (fun k W => ∃ j : Nat, j ≤ gs.length ∧ k = .int .i64 j ∧ (∀ i (h : i < gs.length), i < j → gs[i].kind = 1 ∧ gs[i].iff = false) ∧ BoxSt w #[.int .i64 n, .int .i64 b, .slice a gs.length c] 31 W) (fun k _ => gs.length - (intOf k).toNat)
    case atStart => exact ⟨0, Nat.zero_le _, rfl, fun i _ h => absurd h (Nat.not_lt_zero _), HS2.out⟩
    case round =>
      obtain ⟨j, hj, rfl, hall, hst⟩ := hrel
      clear HS2
      have HS := Lib.hid hst
      have HALL := Lib.hid hall
      clear hst hall
      have p0 := cell_at (i := 0) HS.out.blk rfl
      have p1 := cell_at (i := 1) HS.out.blk rfl
      have p2 := cell_at (i := 2) HS.out.blk rfl
      by_cases hlt : j < gs.length
      · obtain ⟨bo, oo, hbl, hidx, c0, c1, c2, c3, c4, c5, c6⟩ := (HC.out.below HS.out.below).at j hlt
        have HJ : Hid (gs[j].kind = 1 ∧ gs[j].iff = false → ∀ i (h : i < gs.length), i < j + 1 → gs[i].kind = 1 ∧ gs[i].iff = false) := Lib.hid fun h i hi hij => by
          by_cases e : i = j
          · subst e; exact h
          · exact HALL.out i hi (by omega)
        generalize gs[j] = g at *
        by_cases hk : g.kind = 1
        · have hk1 : (g.kind != 1) = false := by simpa using hk
          cases hif : g.iff with
          | true =>
            rw [hif] at c4
            go_wp2_with fail
            refine bodyPost_ret (v := .tuple #[.bool false, .int .i64 0]) (by simp [results, Tryz.results35, go_sem, *]) rfl ⟨_, _, rfl, (fun h => by cases h), HS.out.below⟩
          | false =>
            rw [hif] at c4
            have HJ2 := Lib.hid (HJ.out ⟨hk, hif⟩)
            go_wp2_with fail
            go_roundw
            case rel => exact ⟨j + 1, by omega, by go_num, HJ2.out, HS.out⟩
            case measure => simp [intOf]; omega
        · have hk1 : (g.kind != 1) = true := by simpa using hk
          go_wp2_with fail
          refine bodyPost_ret (v := .tuple #[.bool false, .int .i64 0]) (by simp [results, Tryz.results35, go_sem, *]) rfl ⟨_, _, rfl, (fun h => by cases h), HS.out.below⟩
      · obtain rfl : j = gs.length := by omega
        go_wp2_with fail
        refine bodyPost_ret (v := .tuple #[.bool true, .int .i64 0]) (by simp [results, Tryz.results35, go_sem, *]) rfl ⟨_, _, rfl, fun _ i h => HALL.out i h h, HS.out.below⟩
  · have he1 : (e != 0) = true := by simpa using he
    go_wp2_with fail
    refine bodyPost_ret (v := .tuple #[.bool false, .int .i64 e]) (by simp [results, Tryz.results35, go_sem, *]) rfl ⟨_, _, rfl, (fun h => by cases h), HS2.out.below⟩
set_option maxRecDepth 100000 in
set_option maxHeartbeats 4000000 in
theorem small_calls (n b : Int) (a : Option Addr) (c : Nat) (gs : List Oq) (w : World) (h : CircQ w a c gs) : Calls Tryz.prog 13 #[.agg #[.int .i64 n, .int .i64 b, .slice a gs.length c]] w fun x w' => ∃ ok : Bool, x = .returned (.bool ok) ∧ (ok = true → CkOk n b gs ∧ CleanQ gs ∧ n ≤ 10) ∧ Below w.heap.size w w' := by
  have HC := Lib.hid h
  have HS := Lib.hid (BoxSt.start w #[.int .i64 n, .int .i64 b, .slice a gs.length c] 31)
  have g8 := fun w h => rcheck_any n b a c gs w h
  have g35 := fun w h => rclean_any n b a c gs w h
  clear h
  go_enter Tryz.func13, Tryz.ntmps13
  go_wp2_with fail
  generalize w.alloc (.cells #[.int .i64 n, .int .i64 b, .slice a gs.length c] 31) = W1 at *
  have p0 := cell_at (i := 0) HS.out.blk rfl
  have p1 := cell_at (i := 1) HS.out.blk rfl
  have p2 := cell_at (i := 2) HS.out.blk rfl
  go_wp2_with fail
  go_at_call 8
  refine (g8 _ (HC.out.below HS.out.below)).mono ?_
  rintro x w2 ⟨i0, e, rfl, hck, hb2⟩
  have HS2 := Lib.hid (HS.out.next hb2)
  have HCK := Lib.hid hck
  clear hb2 HS hck p0 p1 p2
  have p0 := cell_at (i := 0) HS2.out.blk rfl
  have p1 := cell_at (i := 1) HS2.out.blk rfl
  have p2 := cell_at (i := 2) HS2.out.blk rfl
  go_wp2_with fail
  go_at_call 35
  refine (g35 _ (HC.out.below HS2.out.below)).mono ?_
  rintro x w3 ⟨cl, f, rfl, hcl, hb3⟩
  have HS3 := Lib.hid (HS2.out.next hb3)
  have HCL := Lib.hid hcl
  clear hb3 HS2 hcl p0 p1 p2
  have p0 := cell_at (i := 0) HS3.out.blk rfl
  have p1 := cell_at (i := 1) HS3.out.blk rfl
  have p2 := cell_at (i := 2) HS3.out.blk rfl
  by_cases he : e = 0
  · subst he
    by_cases hf : f = 0
    · subst hf
      cases cl with
      | true =>
        by_cases hn : n ≤ 10
        · have d : decide (n ≤ 10) = true := decide_eq_true hn
          go_wp2_with fail
          go_ret
          exact ⟨_, rfl, fun _ => ⟨HCK.out rfl, HCL.out trivial, hn⟩, HS3.out.below⟩
        · have d : decide (n ≤ 10) = false := decide_eq_false hn
          go_wp2_with fail
          go_ret
          exact ⟨_, rfl, (fun h => by cases h), HS3.out.below⟩
      | false =>
        go_wp2_with fail
        go_ret
        exact ⟨_, rfl, (fun h => by cases h), HS3.out.below⟩
    · have hf1 : (f == 0) = false := by simpa using hf
      go_wp2_with fail
      go_ret
      exact ⟨_, rfl, (fun h => by cases h), HS3.out.below⟩
  · have he1 : (e == 0) = false := by simpa using he
    go_wp2_with fail
    go_ret
    exact ⟨_, rfl, (fun h => by cases h), HS3.out.below⟩
/-- A gate, as any operation. -/
def Gop.q (g : Gop) : Oq := ⟨1, g.e.name, g.aq, g.cq, g.qs.map (fun q : Nat => (q : Int)), 0, false, 0, 0⟩
theorem gop_of {n : Nat} {g : Oq} (h : g.Fine n) (h1 : g.kind = 1) (h2 : g.iff = false) : ∃ o : Gop, g = o.q ∧ o.Ok n := by
  obtain ⟨kind, name, aq, cq, qs, bit, iff, mask, val⟩ := g
  obtain ⟨hg, hb, hr, hd, hc⟩ := h
  dsimp only at h1 h2 hg hb hr hd hc
  subst h1 h2
  obtain ⟨e, he, rfl, hl⟩ := hg rfl
  obtain rfl := hb rfl
  obtain ⟨rfl, rfl⟩ := hc rfl
  obtain ⟨l, rfl, hlt⟩ := nats_of n qs hr
  exact ⟨⟨e, aq, cq, l⟩, rfl, ⟨he, by simpa using hl, hlt, nodup_of hd⟩⟩
/-- A clean circuit's gates. -/
theorem gops_of {n : Nat} : ∀ {gs : List Oq}, (∀ g ∈ gs, g.Fine n) → (∀ g ∈ gs, g.kind = 1 ∧ g.iff = false) → ∃ l : List Gop, gs = l.map Gop.q ∧ (∀ g ∈ l, g.Ok n) ∧ sumH l = sumQ gs
  | [], _, _ => ⟨[], rfl, fun _ h => by simp at h, rfl⟩
  | g :: gs, h, hc => by
    obtain ⟨l, hl, ho, hs⟩ := gops_of (gs := gs) (fun x hx => h x (.tail _ hx)) (fun x hx => hc x (.tail _ hx))
    obtain ⟨o, rfl, hok⟩ := gop_of (h g (.head _)) (hc g (.head _)).1 (hc g (.head _)).2
    refine ⟨o :: l, by rw [hl]; rfl, fun x hx => ?_, ?_⟩
    · rcases List.mem_cons.1 hx with rfl | hx
      · exact hok
      · exact ho x hx
    · unfold sumH sumQ at *
      rw [List.map_cons, List.map_cons, List.sum_cons, List.sum_cons, hs]
      congr 1
      show o.e.ha = hOf 1 o.e.name
      rw [hOf, if_pos rfl, haN_gate o.e hok.mem]
theorem clean_circ {n : Nat} {b : Int} {gs : List Oq} (h : CkOk n b gs) (hc : CleanQ gs) : ∃ l : List Gop, gs = l.map Gop.q ∧ (∀ g ∈ l, g.Ok n) ∧ sumH l ≤ 36 := by
  obtain ⟨l, h1, h2, h3⟩ := gops_of (n := n) (gs := gs) (fun g hg => by obtain ⟨i, hi, rfl⟩ := List.mem_iff_getElem.1 hg; exact h.fine i hi) (fun g hg => by obtain ⟨i, hi, rfl⟩ := List.mem_iff_getElem.1 hg; exact hc i hi)
  exact ⟨l, h1, h2, by rw [h3]; exact h.sum⟩
theorem circ_of {n : Nat} {w : World} {a : Option Addr} {c : Nat} {l : List Gop} (h : CircQ w a c (l.map Gop.q)) (ho : ∀ g ∈ l, g.Ok n) : Circ w n a c l := by
  refine ⟨by have := h.len; simpa using this, h.cap, ho, fun g hg => (h.ints g.q (List.mem_map_of_mem hg)).nats, ?_⟩
  rcases h.at_ with e | ⟨b, off, ha, hc⟩
  · exact .inl (by simpa using e)
  · refine .inr ⟨b, off, ha, fun j hj => ?_⟩
    have h1 := hc j (by simpa using hj)
    rw [List.getElem_map] at h1
    obtain ⟨c0, c1, c2, c3, c4, c5, c6⟩ := h1
    exact ⟨c0, c1, by simpa [Gop.q] using c2, c3, c4, c5, c6⟩
end Go.Proofs.YtlobgpgdknjhlaaGreat.WH
