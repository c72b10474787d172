/- WholeOrder: walked. -/
import Derived.Test.YtlobgpgdknjhlaaGreatWhBD
import Derived.Test.YtlobgpgdknjhlaaGreatWhBF
import Derived.Test.YtlobgpgdknjhlaaGreatWhBA
namespace Go.Proofs.YtlobgpgdknjhlaaGreat.WH
open Go Go.RowKit Go.Proofs.YtlobgpgdknjhlaaGreat.F
set_option linter.unusedVariables false
set_option linter.unusedSimpArgs false
attribute [local go_sem] run_store_complex run_store_func
theorem part_len {L : List (List Nat)} {s : Nat} (hs : s < L.length) (t : Nat) : ((L.take s).flatMap List.reverse ++ (L[s].drop t).reverse).length ≤ (L.flatMap List.reverse).length := by
  have e : L.flatMap List.reverse = (L.take s).flatMap List.reverse ++ (L[s].reverse ++ (L.drop (s + 1)).flatMap List.reverse) := by
    conv => lhs; rw [← List.take_append_drop s L, List.flatMap_append, List.drop_eq_getElem_cons hs, List.flatMap_cons]
  rw [e, List.length_append, List.length_append, List.length_append, List.length_reverse, List.length_reverse, List.length_drop]
  omega
theorem part_next {L : List (List Nat)} {s : Nat} (hs : s < L.length) : (L.take s).flatMap List.reverse ++ L[s].reverse = (L.take (s + 1)).flatMap List.reverse := by
  rw [List.take_succ_eq_append_getElem hs, List.flatMap_append]
  simp
theorem drop_next {r : List Nat} {t : Nat} (ht : t < r.length) : (r.drop t).reverse = (r.drop (t + 1)).reverse ++ [r[t]] := by
  rw [List.drop_eq_getElem_cons ht, List.reverse_cons]
theorem ints_row {w : World} {B n cv : Nat} {av : Option Addr} {qs : List Nat} (hn : qs.length = n) (h : w.ownsRow B 3 1 (.slice av n cv) n (qs.map intV)) : Ints w av cv qs := by
  rcases Nat.eq_zero_or_pos n with h0 | h0
  · have hq : qs = [] := List.eq_nil_of_length_eq_zero (by omega)
    subst hq
    rcases h.2 with ⟨hv, -⟩ | ⟨g, cap, cur, hv, hb, hg, hle, hm, -⟩
    · simp only [Value.slice.injEq] at hv
      obtain ⟨-, -, rfl⟩ := hv
      exact ⟨by simp, by decide, .inl rfl⟩
    · simp only [Value.slice.injEq] at hv
      obtain ⟨-, -, rfl⟩ := hv
      unfold maxLen at hm
      exact ⟨by simp, by omega, .inl rfl⟩
  · obtain ⟨g, c, hv, hi, -⟩ := ints_own hn h0 h
    simp only [Value.slice.injEq] at hv
    obtain ⟨rfl, -, rfl⟩ := hv
    exact hi
/-- The order under way. -/
structure OSt (w : World) (v : Value) (o : List Nat) (W : World) : Prop where
  below : Below w.heap.size w W
  own : W.ownsRow w.heap.size 3 1 v o.length (o.map intV)
theorem OSt.start (w : World) : OSt w (.slice none 0 0) [] w := ⟨Below.refl _ _, World.ownsRow_nil _ _ _ _⟩
theorem OSt.next {w W W' : World} {v : Value} {o : List Nat} (h : OSt w v o W) (hb : Below W.heap.size W W') : OSt w v o W' :=
  ⟨h.below.trans (hb.mono h.below.size), own_keep h.own fun g cur _ hc => hb.block g (lt_of_heap hc)⟩
theorem OSt.put {w W W' : World} {v v' : Value} {o : List Nat} {x : Nat} (h : OSt w v o W) (ho : W'.ownsRow w.heap.size 3 1 v' (o.length + 1) (o.map intV ++ [intV x])) (hg : W.grownBy W' v.ownBlock) : OSt w v' (o ++ [x]) W' :=
  ⟨h.below.trans (grown_below h.own hg h.below.size), by rw [List.length_append, List.map_append]; exact ho⟩
set_option maxRecDepth 100000 in
set_option maxHeartbeats 4000000 in
theorem wholeOrder_walk (n b : Int) (a : Option Addr) (c : Nat) (gs : List Oq) (x : Nat) (hx : x < 2 ^ 64) (w : World) (h : CircQ w a c gs) :
    Calls Tryz.prog 5 #[.agg #[.int .i64 n, .int .i64 b, .slice a gs.length c], .int .u64 x] w fun e w' => e = .returned (.bool true) ∧ Below w.heap.size w w' := by
  have HC := Lib.hid h
  have HS := Lib.hid (BoxSt.start w #[.int .i64 n, .int .i64 b, .slice a gs.length c] 31)
  have g6 := fun w => lit_calls w
  have g13 := fun w h => small_calls n b a c gs w h
  clear h
  go_enter Tryz.func5, Tryz.ntmps5
  go_wp2_with fail
  go_at_call 6
  refine (g6 _).mono ?_
  rintro e w1 ⟨rfl, hb1⟩
  have HS1 := Lib.hid (HS.out.next hb1)
  clear hb1 HS g6
  have p0 := cell_at (i := 0) HS1.out.blk rfl
  have p1 := cell_at (i := 1) HS1.out.blk rfl
  have p2 := cell_at (i := 2) HS1.out.blk rfl
  go_wp2_with fail
  go_at_call 13
  refine (g13 _ (HC.out.below HS1.out.below)).mono ?_
  rintro e w2 ⟨ok, rfl, hok, hb2⟩
  have HS2 := Lib.hid (HS1.out.next hb2)
  have HOK := Lib.hid hok
  clear hb2 HS1 hok g13 p0 p1 p2
  cases ok with
  | false =>
    go_wp2_with fail
    go_ret
    exact ⟨rfl, HS2.out.below⟩
  | true =>
    obtain ⟨hck, hcl, hn10⟩ := HOK.out rfl
    obtain ⟨n, rfl⟩ : ∃ m : Nat, n = (m : Int) := ⟨n.toNat, by have := hck.n0; omega⟩
    obtain ⟨b, rfl⟩ : ∃ m : Nat, b = (m : Int) := ⟨b.toNat, by have := hck.b0; omega⟩
    obtain ⟨l, rfl, hlok, hsum⟩ := clean_circ hck hcl
    have hn : n ≤ 10 := by omega
    have hb : b ≤ 64 := by have := hck.b1; omega
    have hlen : l.length ≤ 4096 := by have := hck.len; rw [List.length_map] at this; exact this
    have HCC : Hid (∀ W, Below w.heap.size w W → Circ W n a c l) := Lib.hid fun W hb => circ_of (HC.out.below hb) hlok
    have HLOK := Lib.hid hlok
    rw [List.length_map] at *
    have g19 := fun w h => layers_calls n b hn hb a c l w h hlen hsum
    clear hck hcl hlok HOK HC hn10
    have p0 := cell_at (i := 0) HS2.out.blk rfl
    have p1 := cell_at (i := 1) HS2.out.blk rfl
    have p2 := cell_at (i := 2) HS2.out.blk rfl
    go_wp2_with fail
    go_at_call 19
    refine (g19 _ (HCC.out _ HS2.out.below)).mono ?_
    rintro e w3 ⟨v, L, st, rfl, hinv, ⟨hs, hlay⟩, hb3⟩
    obtain ⟨av, cv, rfl⟩ := own_isSlice hlay.own
    have HPP := Lib.hid (layers_order hinv.lt hinv.rows hinv.ord)
    have HS3 := Lib.hid (HS2.out.next hb3)
    have HLAY := Lib.hid hlay
    have HINV := Lib.hid hinv
    have HOS := Lib.hid (OSt.start w3)
    have hLl : L.length ≤ 4096 := Nat.le_trans hinv.ne hlen
    clear hb3 HS2 g19 hlay hinv p0 p1 p2
    go_wp2_with fail
    have hil : ∀ (L' : List (List Nat)), L' = L → (L'.length : Int) ≤ 4096 := fun L' e => by subst e; omega
    go_loopw [7, 31] (fun v k W => ∃ s : Nat, s ≤ L.length ∧ k = .int .i64 s ∧ OSt w3 v ((L.take s).flatMap List.reverse) W) (fun _ k _ => L.length - (intOf k).toNat)
    case atStart => exact ⟨0, Nat.zero_le _, rfl, by rw [List.take_zero]; exact HOS.out⟩
    case round =>
      clear HOS
      obtain ⟨s, hsle, rfl, hst⟩ := hrel
      have HO := Lib.hid hst
      clear hst
      by_cases hsl : s < L.length
      · obtain ⟨gv, cap, cur, hs2, hv, hgv, hheap, hcell⟩ := (HLAY.out.below HO.out.below).head hsl
        simp only [Value.slice.injEq] at hv
        obtain ⟨rfl, -, rfl⟩ := hv
        have hrow := HLAY.out.row s hsl hs2
        obtain ⟨ar, cr, hre⟩ := own_isSlice hrow
        rw [hre] at hrow hcell
        have HRW := Lib.hid (ints_row rfl hrow)
        have i5 := idx55 (g := gv) (c := cv) hsl
        have hN : (L.flatMap List.reverse).length = l.length := by rw [HPP.out.1.length_eq, List.length_range]
        have HPL : Hid (∀ t, ((L.take s).flatMap List.reverse ++ (L[s].drop t).reverse).length ≤ 4096) := Lib.hid fun t => Nat.le_trans (part_len hsl t) (by rw [hN]; exact hlen)
        have HPN := Lib.hid (part_next hsl)
        have hrl : (L[s]).length ≤ 4096 := by
          have := HPL.out 0
          rw [List.length_append, List.length_reverse, List.drop_zero] at this
          omega
        generalize hdo : (L.take s).flatMap List.reverse = don at *
        have HDO := Lib.hid hdo
        generalize L[s] = r at *
        have HO1 : Hid (OSt w3 u7 (don ++ (r.drop r.length).reverse) wr) := Lib.hid (by rw [List.drop_length]; simpa using HO.out)
        clear hrow hre hheap hN hdo HO
        have hri : (r.length : Int) ≤ 4096 := by omega
        go_wp2_with fail
        clear hcell i5
        go_loopw [7, 10] (fun v k W => ∃ (t : Nat) (z : Int), t ≤ r.length ∧ k = .int .i64 z ∧ z = (t : Int) - 1 ∧ OSt w3 v (don ++ (r.drop t).reverse) W) (fun _ k _ => (intOf k + 1).toNat)
        case atStart => exact ⟨r.length, _, Nat.le_refl _, rfl, by omega, HO1.out⟩
        case round =>
          clear HO1
          obtain ⟨t, z, ht, rfl, hz, hst⟩ := hrel
          have HO := Lib.hid hst
          clear hst
          cases t with
          | zero =>
            obtain rfl : z = -1 := by omega
            clear hz
            have HE : Hid (OSt w3 u7 ((L.take (s + 1)).flatMap List.reverse) wr) := Lib.hid (by rw [← HPN.out]; simpa using HO.out)
            go_wp2_with fail
            exact ⟨⟨s + 1, by omega, by go_num, HE.out⟩, by simp [intOf]; omega⟩
          | succ t =>
            obtain rfl : z = (t : Int) := by omega
            clear hz
            have htl : t < r.length := by omega
            have hdr := drop_next htl
            obtain ⟨bo, oo, hbl, hidx, hc0⟩ := (HRW.out.below HO.out.below).at t htl
            have hone := HPL.out (t + 1)
            generalize hol : don ++ (r.drop (t + 1)).reverse = o at *
            have HOL := Lib.hid hol
            have HDR := Lib.hid hdr
            clear hol hdr
            generalize r[t] = y at *
            have HO2 := Lib.hid (HO.out.next (below1 wr (.cells #[.int .i64 y] 3)))
            have hcs : ∀ (j : Nat) (u : Value), [Value.int .i64 y][j]? = some u → (wr.alloc (.cells #[.int .i64 y] 3)).cell? ((⟨wr.heap.size, 0, none⟩ : Addr).add j) = some u := by
              intro j u hu
              match j with
              | 0 => injection hu with hu; subst hu; exact cell_at (i := 0) (newB _ _ rfl) rfl
              | j + 1 => simp at hu
            have HCS := Lib.hid hcs
            obtain ⟨i3, hi3, hz0, hz1, hz2⟩ : ∃ i, Tryz.prog.info? 3 = some i ∧ i.zero = some (.int .i64 0) ∧ i.size = 1 ∧ i.bytes = 8 := ⟨_, rfl, rfl, rfl, rfl⟩
            clear hcs HO
            go_wp2_with (at_builtin; refine wpList_append_own _ rfl _ _ 22 rfl w3.heap.size 3 i3 _ 1 8 Tryz.underlying22 hi3 hz0 hz1 hz2 rfl (by decide) _ o.length (o.map intV) rfl HO2.out.own ⟨wr.heap.size, 0, none⟩ 1 1 [.int .i64 y] rfl rfl HCS.out ?c2 ?c3 ?c4 ?c5 ?_)
            case c2 => intro u hu; rw [List.mem_singleton] at hu; subst hu; rfl
            case c3 => unfold maxLen; omega
            case c4 => omega
            case c5 => exact HO2.out.below.size
            intro v' w4 hown hgr _
            have HO3 := Lib.hid (HO2.out.put hown hgr)
            clear hown hgr HO2 HCS
            go_wp2_with fail
            exact ⟨⟨t, (t : Int) - 1, by omega, rfl, rfl, by rw [HDR.out, ← List.append_assoc, HOL.out]; exact HO3.out⟩, by first | (simp [intOf]; done) | (simp [intOf]; omega)⟩
      · obtain rfl : s = L.length := by omega
        have hO := HO.out
        rw [List.take_length] at hO
        obtain ⟨ao, co, rfl⟩ := own_isSlice hO.own
        have hol : (L.flatMap List.reverse).length = l.length := by rw [HPP.out.1.length_eq, List.length_range]
        have HOI := Lib.hid (ints_row rfl hO.own)
        have HB := Lib.hid hO.below
        have hpp := HPP.out
        clear hO HO
        generalize L.flatMap List.reverse = order at *
        rw [hol]
        have HOL := Lib.hid hol
        have g20 := fun w h ho => order_calls n b hn hb a c l ao co order l.length rfl hol w h ho hlen hsum hpp.1 hpp.2
        have HPO := Lib.hid hpp
        have HS4 := Lib.hid (HS3.out.next HB.out)
        clear hol hpp
        have p0 := cell_at (i := 0) HS4.out.blk rfl
        have p1 := cell_at (i := 1) HS4.out.blk rfl
        have p2 := cell_at (i := 2) HS4.out.blk rfl
        have plt := block_lt p0
        go_wp2_with fail
        go_at_call 20
        refine (g20 _ (HCC.out _ HS4.out.below) (HOI.out)).mono ?_
        rintro e w5 ⟨a', c', ds, rfl, hdl, hdk, hdc, hb5⟩
        have hxn : x % 2 ^ n < 2 ^ n := Nat.mod_lt _ (Nat.two_pow_pos n)
        obtain ⟨hrun, hds⟩ := order_run (s := (0, basisR n (x % 2 ^ n))) (basis_len _ _) (.inl rfl) HLOK.out HPO.out.1 HPO.out.2 hdk
        have g11 := fun w h => ran_calls n b x hn hb hx a c l w h hlen hsum
        have g11' := fun w h => ran_calls n b x hn hb hx a' c' ds w h (by omega) (by omega)
        rw [hrun, hdl] at g11'
        have hgood := (basis_good n _ hxn).run HLOK.out l.length (Nat.le_refl _)
        rw [List.take_length] at hgood
        have HRI : Hid (∀ W B, OwnR W B (runR (0, basisR n (x % 2 ^ n)) l).2 → Rings W (some ⟨B, 0, none⟩) (2 ^ n) (runR (0, basisR n (x % 2 ^ n)) l).2) := Lib.hid fun W B h => by
          have h1 := h.rings (fun r hr => (hgood.bd r hr).pt (Nat.pow_lt_pow_right (by decide) (by omega))) (by rw [hgood.len]; have := pow_le hn; omega)
          rw [hgood.len] at h1
          exact h1
        have g12 := fun a1 c1 a2 c2 w h1 h2 => same_calls n (runR (0, basisR n (x % 2 ^ n)) l).1 a1 c1 a2 c2 (runR (0, basisR n (x % 2 ^ n)) l).2 w h1 h2
        rw [hgood.len] at g12
        have HDC := Lib.hid hdc
        have HS5 := Lib.hid (HS4.out.next hb5)
        clear hdk hdl hdc hb5 hrun hds hgood hxn HPO HOL HLOK HS4 HS3 HLAY HINV HB g20 p0 p1 p2 plt
        generalize (runR (0, basisR n (x % 2 ^ n)) l).1 = K1 at *
        generalize (runR (0, basisR n (x % 2 ^ n)) l).2 = rs at *
        generalize 2 ^ n = M at *
        have p0 := cell_at (i := 0) HS5.out.blk rfl
        have p1 := cell_at (i := 1) HS5.out.blk rfl
        have p2 := cell_at (i := 2) HS5.out.blk rfl
        have plt := block_lt p0
        go_wp2_with fail
        have hb6 := below1 w5 (.cells #[.int .i64 n, .int .i64 b, .slice a' l.length c'] 31)
        go_at_call 11
        refine (g11 _ (HCC.out _ (HS5.out.next hb6).below)).mono ?_
        rintro e w6 ⟨B1, rfl, ho6, -, hb7⟩
        have hD : w6.heap[w5.heap.size]? = some (.cells #[.int .i64 n, .int .i64 b, .slice a' l.length c'] 31) := Below.heap_some hb7 (newB _ _ rfl)
        have HS6 := Lib.hid ((HS5.out.next hb6).next hb7)
        have HD6 := Lib.hid ((HDC.out.below hb6).below hb7)
        have HO6 := Lib.hid ho6
        have HDB := Lib.hid hD
        clear hb6 hb7 ho6 HS5 HDC p0 p1 p2 plt g11 HCC
        have d0 := cell_at (i := 0) hD rfl
        have d1 := cell_at (i := 1) hD rfl
        have d2 := cell_at (i := 2) hD rfl
        have dlt := block_lt d0
        clear hD
        go_wp2_with fail
        have hb8 := below1 w6 (.cells #[.int .i64 n, .int .i64 K1, .slice (some ⟨B1, 0, none⟩) M M] 37)
        go_at_call 11
        refine (g11' _ (HD6.out.below hb8)).mono ?_
        rintro e w7 ⟨B2, rfl, ho7, -, hb9⟩
        have hv : w7.heap[w6.heap.size]? = some (.cells #[.int .i64 n, .int .i64 K1, .slice (some ⟨B1, 0, none⟩) M M] 37) := Below.heap_some hb9 (newB _ _ rfl)
        have HS7 := Lib.hid ((HS6.out.next hb8).next hb9)
        have HR2 := Lib.hid ((HRI.out _ _ ho7).below (below1 _ (.cells #[.int .i64 n, .int .i64 K1, .slice (some ⟨B2, 0, none⟩) M M] 37)))
        have HR1 := Lib.hid ((HRI.out _ _ ((HO6.out.below hb8).below hb9)).below (below1 _ (.cells #[.int .i64 n, .int .i64 K1, .slice (some ⟨B2, 0, none⟩) M M] 37)))
        have v0 := cell_at (i := 0) hv rfl
        have v1 := cell_at (i := 1) hv rfl
        have v2 := cell_at (i := 2) hv rfl
        have vlt := block_lt v0
        clear hb8 hb9 ho7 HS6 HD6 HO6 g11' d0 d1 d2 dlt hv
        go_wp2_with fail
        go_at_call 12
        refine (g12 _ _ _ _ _ HR1.out HR2.out).mono ?_
        rintro e w8 ⟨rfl, hb10⟩
        have HS8 := Lib.hid ((HS7.out.next (below1 _ (.cells #[.int .i64 n, .int .i64 K1, .slice (some ⟨B2, 0, none⟩) M M] 37))).next hb10)
        clear hb10 v0 v1 v2 vlt
        go_wp2_with fail
        go_ret
        exact ⟨rfl, HS8.out.below⟩
end Go.Proofs.YtlobgpgdknjhlaaGreat.WH
