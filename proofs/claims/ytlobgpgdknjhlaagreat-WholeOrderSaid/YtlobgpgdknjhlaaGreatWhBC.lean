/- Lists of lists that the call owns: appends. -/
import Derived.Test.YtlobgpgdknjhlaaGreatWhBB
namespace Go.Proofs.YtlobgpgdknjhlaaGreat.WH
open Go Go.RowKit Go.Proofs.YtlobgpgdknjhlaaGreat.F
set_option linter.unusedVariables false
set_option linter.unusedSimpArgs false
attribute [local go_sem] run_store_complex run_store_func
set_option maxRecDepth 100000 in
theorem make_ints (n : Nat) (hn : n ≤ 4096) (w : World) : (Instr.makeSlice 22 (.int .i64 (n : Int)) (.int .i64 (n : Int))).run Tryz.prog w = .ok (.slice (some ⟨w.heap.size, 0, none⟩) n n) (w.alloc (.cells (List.map intV (List.replicate n 0)).toArray 3)) := by
  obtain ⟨i, hi, hz0, hz1, hz2⟩ : ∃ i, Tryz.prog.info? 3 = some i ∧ i.zero = some (.int .i64 0) ∧ i.size = 1 ∧ i.bytes = 8 := ⟨_, rfl, rfl, rfl, rfl⟩
  have h := run_makeSlice (P := Tryz.prog) w 22 3 i _ Tryz.underlying22 hi hz0 .i64 .i64 n n (by omega) (Int.le_refl _) (by rw [hz1]; omega) (by rw [hz2]; omega) (by omega)
  rw [hz1] at h
  simp only [Int.toNat_natCast, Nat.mul_one] at h
  rw [h]
  have e : madeCells (Value.int .i64 0).cells n = (List.map intV (List.replicate n 0)).toArray := by
    refine Array.ext (by simp [madeCells]) fun j h1 h2 => ?_
    simp [madeCells, Value.cells, intV, Nat.mod_one]
  rw [e]
/-- An append, to a row that the call owns: in place, or in a new block. -/
theorem run_append_fresh (w : World) (t ty e : TypeId) (i : TypeInfo) (z : Value) (size bytes : Nat) (ht : Tryz.prog.underlying t = some (.slice e)) (hi : Tryz.prog.info? e = some i) (hz : i.zero = some z)
    (hsize : i.size = size) (hby : i.bytes = bytes) (hzs : z.cells.size = size) (hsz : 0 < size)
    (base : Nat) (v : Value) (n : Nat) (xs : List Value) (hown : w.ownsRow base e size v n xs) (ad : Addr) (m c : Nat) (news : List Value) (hl : news.length = m * size) (hnews : ∀ j u, news[j]? = some u → w.cell? (ad.add j) = some u) (h1 : ∀ u ∈ news, u.oneCell' = true)
    (h63 : n + m ≤ maxLen) (hbytes : (n + m) * bytes ≤ 140737488355328) (hbase : base ≤ w.heap.size) :
    ∃ v' w', (Builtin.append_ #[t, t] ty #[v, .slice (some ad) m c]).run Tryz.prog w = .ok v' w' ∧ w'.ownsRow base e size v' (n + m) (xs ++ news) ∧ w.grownBy w' v.ownBlock ∧ (v'.ownBlock = v.ownBlock ∨ ∀ g, v'.ownBlock = some g → w.heap.size ≤ g) := by
  have up : ∀ {w' : World} {v' : Value} {k : Nat} {ys : List Value}, w'.ownsRow w.heap.size e size v' k ys → w'.ownsRow base e size v' k ys ∧ ∀ g, v'.ownBlock = some g → w.heap.size ≤ g := by
    rintro w' v' k ys ⟨h1, h2⟩
    rcases h2 with ⟨rfl, rfl⟩ | ⟨g, cap, cur, rfl, hb, h3⟩
    · exact ⟨⟨h1, .inl ⟨rfl, rfl⟩⟩, fun g h => by simp [Value.ownBlock] at h⟩
    · exact ⟨⟨h1, .inr ⟨g, cap, cur, rfl, by omega, h3⟩⟩, fun g' h => by simp [Value.ownBlock] at h; omega⟩
  rcases hown.2 with ⟨rfl, rfl⟩ | ⟨g, cap, cur, rfl, hb, hg, hle, hm, hcs, htk⟩
  · have hx : xs = [] := by have := hown.1; simpa using this
    subst hx
    obtain ⟨v', w', hr, h2, h3, -⟩ := run_append_own (P := Tryz.prog) w w.heap.size t ty e i z size bytes ht hi hz hsize hby hzs hsz (.slice none 0 0) 0 [] (World.ownsRow_nil w _ e size) ad m c news hl hnews h1 h63 hbytes (Nat.le_refl _)
    exact ⟨v', w', hr, (up h2).1, h3, .inr (up h2).2⟩
  · by_cases hfit : n + m ≤ cap
    · obtain ⟨w', hr, h2, h3⟩ := run_append_fits (P := Tryz.prog) w base t ty e i size ht hi hsize g n cap xs hown ad m c news hl hnews h1 hfit
      exact ⟨_, w', hr, h2, h3, .inl rfl⟩
    · have holds : ∀ j u, xs[j]? = some u → w.cell? ((⟨g, 0, none⟩ : Addr).add j) = some u := by
        intro j u hu
        have hj : j < xs.length := (List.getElem?_eq_some_iff.1 hu).1
        have hadd : (⟨g, 0, none⟩ : Addr).add j = ⟨g, 0 + j, none⟩ := by unfold Addr.add; split <;> simp_all
        rw [hadd, Nat.zero_add]
        unfold World.cell?
        rw [hg]
        rw [← htk, List.getElem?_take_of_lt (by rw [hown.1] at hj; exact hj)] at hu
        simpa using hu
      obtain ⟨v', w', hr, h2, h3⟩ := run_append_arg_grows (P := Tryz.prog) w t ty e i z size bytes ht hi hz hsize hby hzs hsz ⟨g, 0, none⟩ n cap xs hown.1 holds ad m c news hl hnews (by omega) h63 hbytes
      exact ⟨v', w', hr, (up h2).1, ⟨h3.os, h3.tape, h3.output, h3.size, fun k hk _ => h3.block k hk (by simp)⟩, .inr (up h2).2⟩
/-- A list of lists, that the call owns. -/
structure Lay (B : Nat) (W : World) (v : Value) (hs : List Value) (L : List (List Nat)) : Prop where
  own : W.ownsRow B 22 1 v L.length hs
  row : ∀ s (h : s < L.length) (h' : s < hs.length), W.ownsRow B 3 1 hs[s] L[s].length (L[s].map intV)
  ne : ∀ s t (h : s < hs.length) (h' : t < hs.length), s ≠ t → ∀ g, hs[s].ownBlock = some g → hs[t].ownBlock ≠ some g
theorem Lay.len {B : Nat} {W : World} {v : Value} {hs : List Value} {L : List (List Nat)} (h : Lay B W v hs L) : hs.length = L.length := by
  have := h.own.1
  omega
theorem own_keep {w w' : World} {B : Nat} {e : TypeId} {size n : Nat} {v : Value} {xs : List Value} (h : w.ownsRow B e size v n xs) (hk : ∀ g cur, v.ownBlock = some g → w.heap[g]? = some (.cells cur e) → w'.heap[g]? = w.heap[g]?) : w'.ownsRow B e size v n xs := by
  refine ⟨h.1, ?_⟩
  rcases h.2 with h1 | ⟨g, cap, cur, rfl, hb, hg, h2⟩
  · exact .inl h1
  · exact .inr ⟨g, cap, cur, rfl, hb, (hk g cur rfl hg).trans hg, h2⟩
theorem own_block {w : World} {B : Nat} {e : TypeId} {size n : Nat} {v : Value} {xs : List Value} (h : w.ownsRow B e size v n xs) {g : Nat} (hg : v.ownBlock = some g) : B ≤ g ∧ ∃ cur, w.heap[g]? = some (.cells cur e) := by
  rcases h.2 with ⟨rfl, -⟩ | ⟨g', cap, cur, rfl, hb, hg', -⟩
  · simp [Value.ownBlock] at hg
  · simp only [Value.ownBlock, Option.some.injEq] at hg
    subst hg
    exact ⟨hb, cur, hg'⟩
theorem lt_of_heap {w : World} {g : Nat} {o : Obj} (h : w.heap[g]? = some o) : g < w.heap.size := (Array.getElem?_eq_some_iff.1 h).1
theorem Lay.keep {B : Nat} {W W' : World} {v : Value} {hs : List Value} {L : List (List Nat)} (h : Lay B W v hs L) (hk : ∀ g, B ≤ g → g < W.heap.size → W'.heap[g]? = W.heap[g]?) : Lay B W' v hs L :=
  ⟨own_keep h.own fun g cur hg hc => hk g (own_block h.own hg).1 (lt_of_heap hc), fun s h1 h2 => own_keep (h.row s h1 h2) fun g cur hg hc => hk g (own_block (h.row s h1 h2) hg).1 (lt_of_heap hc), h.ne⟩
theorem Lay.below {B : Nat} {W W' : World} {v : Value} {hs : List Value} {L : List (List Nat)} (h : Lay B W v hs L) (hb : Below W.heap.size W W') : Lay B W' v hs L :=
  h.keep fun g _ hg => hb.block g hg
theorem Lay.push {B : Nat} {W W' : World} {v v' : Value} {hs : List Value} {L : List (List Nat)} (h : Lay B W v hs L) (h2 : W'.ownsRow B 22 1 v' (L.length + 1) (hs ++ [.slice none 0 0])) (hg : W.grownBy W' v.ownBlock) : Lay B W' v' (hs ++ [.slice none 0 0]) (L ++ [[]]) := by
  have hl := h.len
  refine ⟨by rw [List.length_append]; exact h2, fun s h1 h3 => ?_, fun s t h1 h3 hne g hgs => ?_⟩
  · by_cases hs' : s < L.length
    · rw [List.getElem_append_left (by omega), List.getElem_append_left hs']
      refine own_keep (h.row s hs' (by omega)) fun g cur hgb hc => hg.block g (lt_of_heap hc) fun e => ?_
      obtain ⟨-, cur', hc'⟩ := own_block h.own e.symm
      rw [hc] at hc'
      simp at hc'
    · have e : s = L.length := by simp at h1; omega
      subst e
      rw [List.getElem_append_right (by omega), List.getElem_append_right (by omega)]
      simp only [hl, Nat.sub_self, List.getElem_cons_zero]
      exact World.ownsRow_nil _ _ _ _
  · have hnil : ∀ k (hk : k < (hs ++ [Value.slice none 0 0]).length), k = hs.length → (hs ++ [Value.slice none 0 0])[k].ownBlock = none := by
      rintro k hk rfl
      rw [List.getElem_append_right (by omega)]
      simp [Value.ownBlock]
    by_cases e1 : s = hs.length
    · rw [hnil s h1 e1] at hgs; cases hgs
    · by_cases e2 : t = hs.length
      · rw [hnil t h3 e2]; simp
      · have h1' : s < hs.length := by simp at h1; omega
        have h3' : t < hs.length := by simp at h3; omega
        rw [List.getElem_append_left h1'] at hgs
        rw [List.getElem_append_left h3']
        exact h.ne s t h1' h3' hne g hgs
theorem setCell_list {W : World} {g s : Nat} {cur : Array Value} {e : TypeId} {u : Value} (h : W.heap[g]? = some (.cells cur e)) : (W.setCell ⟨g, s, none⟩ u).heap[g]? = some (.cells (cur.setIfInBounds s u) e) := by
  simpa using setCell_block h u (i := s)
theorem Lay.put {B : Nat} {W W1 : World} {hs : List Value} {L : List (List Nat)} {gv cap s x : Nat} {h' : Value} (h : Lay B W (.slice (some ⟨gv, 0, none⟩) L.length cap) hs L) (hs1 : s < L.length) (hs2 : s < hs.length)
    (ho : W1.ownsRow B 3 1 h' (L[s].length + 1) (L[s].map intV ++ [intV x])) (hg : W.grownBy W1 hs[s].ownBlock) (hf : h'.ownBlock = hs[s].ownBlock ∨ ∀ g, h'.ownBlock = some g → W.heap.size ≤ g) :
    Lay B (W1.setCell ⟨gv, s, none⟩ h') (.slice (some ⟨gv, 0, none⟩) L.length cap) (hs.set s h') (L.set s (L[s] ++ [x])) := by
  have hl := h.len
  obtain ⟨hown1, hown2⟩ := h.own
  rcases hown2 with ⟨h9, -⟩ | ⟨g, cap', cur, hv, hb, hgv, h3, h4, h5, h6⟩
  · cases h9
  simp only [Value.slice.injEq, Option.some.injEq, Addr.mk.injEq] at hv
  obtain ⟨⟨e1, -⟩, -, e2⟩ := hv
  subst e1
  subst e2
  have hgv1 : W1.heap[gv]? = some (.cells cur 22) := (hg.block gv (lt_of_heap hgv) fun e => by
    obtain ⟨-, cur', hc'⟩ := own_block (h.row s hs1 hs2) e.symm
    rw [hgv] at hc'
    simp at hc').trans hgv
  have far : ∀ (g : Nat) (cur' : Array Value), W1.heap[g]? = some (.cells cur' 3) → (W1.setCell ⟨gv, s, none⟩ h').heap[g]? = W1.heap[g]? := fun g cur' hc => setCell_far (fun e => by
    subst e
    rw [hgv1] at hc
    simp at hc)
  have lt : ∀ t (ht : t < hs.length) g, hs[t].ownBlock = some g → g < W.heap.size := fun t ht g hgt => by
    obtain ⟨-, cur', hc'⟩ := own_block (h.row t (by omega) ht) hgt
    exact lt_of_heap hc'
  refine ⟨⟨by simp; omega, .inr ⟨gv, cap, cur.setIfInBounds s h', by rw [List.length_set], hb, setCell_list hgv1, by rw [List.length_set]; exact h3, h4, by simp [h5], ?_⟩⟩, fun t h1 h2 => ?_, fun t u h1 h2 hne g hgt => ?_⟩
  · rw [List.length_set, Nat.mul_one] at *
    rw [Array.toList_setIfInBounds, List.take_set, h6]
  · rw [List.length_set] at h1 h2
    by_cases e : t = s
    · subst e
      rw [List.getElem_set_self, List.getElem_set_self, List.length_append, List.map_append]
      exact own_keep ho fun g cur' _ hc => far g cur' hc
    · rw [List.getElem_set_ne (Ne.symm e), List.getElem_set_ne (Ne.symm e)]
      have h7 : W1.ownsRow B 3 1 hs[t] L[t].length (L[t].map intV) := own_keep (h.row t h1 h2) fun g cur' hgt hc => hg.block g (lt_of_heap hc) fun e2 => h.ne t s h2 hs2 e g hgt e2.symm
      exact own_keep h7 fun g cur' _ hc => far g cur' hc
  · have h1' : t < hs.length := by simpa using h1
    have h2' : u < hs.length := by simpa using h2
    by_cases e : t = s
    · subst e
      rw [List.getElem_set_self] at hgt
      rw [List.getElem_set_ne hne]
      rcases hf with e1 | e1
      · rw [e1] at hgt
        exact h.ne t u h1' h2' hne g hgt
      · intro e2
        have := lt u h2' g e2
        have := e1 g hgt
        omega
    · rw [List.getElem_set_ne (Ne.symm e)] at hgt
      by_cases e1 : u = s
      · subst e1
        rw [List.getElem_set_self]
        rcases hf with e2 | e2
        · rw [e2]
          exact h.ne t u h1' h2' hne g hgt
        · intro e3
          have := lt t h1' g hgt
          have := e2 g e3
          omega
      · rw [List.getElem_set_ne (Ne.symm e1)]
        exact h.ne t u h1' h2' hne g hgt
theorem own_isSlice {w : World} {B : Nat} {e : TypeId} {size n : Nat} {v : Value} {xs : List Value} (h : w.ownsRow B e size v n xs) : ∃ a c, v = .slice a n c := by
  rcases h.2 with ⟨rfl, rfl⟩ | ⟨g, cap, cur, rfl, -⟩
  · exact ⟨_, _, rfl⟩
  · exact ⟨_, _, rfl⟩
theorem own_mono {w : World} {B B' : Nat} {e : TypeId} {size n : Nat} {v : Value} {xs : List Value} (h : w.ownsRow B e size v n xs) (hb : B' ≤ B) : w.ownsRow B' e size v n xs :=
  ⟨h.1, h.2.imp id fun ⟨g, cap, cur, e1, hb', r⟩ => ⟨g, cap, cur, e1, Nat.le_trans hb hb', r⟩⟩
end Go.Proofs.YtlobgpgdknjhlaaGreat.WH
