/- WholeGates: walked. -/
import Derived.Test.YtlobgpgdknjhlaaGreatWhAL
namespace Go.Proofs.YtlobgpgdknjhlaaGreat.WH
open Go Go.RowKit Go.Proofs.YtlobgpgdknjhlaaGreat.F
set_option linter.unusedVariables false
set_option linter.unusedSimpArgs false
attribute [local go_sem] run_store_complex run_store_func
theorem bd28 (s : ByteArray) (a : Option Addr) (l c : Nat) (w : World) : (Instr.build 28 #[(0, .int .i64 1), (1, .string s), (2, .slice a l c)]).run Tryz.prog w = .ok (.agg #[.int .i64 1, .string s, .slice a l c, .int .i64 0, .bool false, .int .u64 0, .int .u64 0]) w := run_build w 28 _ _ (by kernel_rfl)
theorem bd31 (a : Int) (v : Option Addr) (l c : Nat) (w : World) : (Instr.build 31 #[(0, .int .i64 a), (2, .slice v l c)]).run Tryz.prog w = .ok (.agg #[.int .i64 a, .int .i64 0, .slice v l c]) w := run_build w 31 _ _ (by kernel_rfl)
theorem bd31' (a : Int) (w : World) : (Instr.build 31 #[(0, .int .i64 a)]).run Tryz.prog w = .ok (.agg #[.int .i64 a, .int .i64 0, .slice none 0 0]) w := run_build w 31 _ _ (by kernel_rfl)
/-- Natural numbers, where none is below nought. -/
theorem nats_of (n : Nat) (qs : List Int) (h : ∀ i (h : i < qs.length), 0 ≤ qs[i] ∧ qs[i] < (n : Int)) : ∃ l : List Nat, qs = l.map (fun q : Nat => (q : Int)) ∧ ∀ q ∈ l, q < n := by
  refine ⟨qs.map Int.toNat, ?_, ?_⟩
  · rw [List.map_map]
    refine (List.map_id _).symm.trans (List.map_congr_left fun q hq => ?_)
    obtain ⟨i, hi, rfl⟩ := List.mem_iff_getElem.1 hq
    have := h i hi
    simp only [id, Function.comp]
    omega
  · intro q hq
    obtain ⟨z, hz, rfl⟩ := List.mem_map.1 hq
    obtain ⟨i, hi, rfl⟩ := List.mem_iff_getElem.1 hz
    have := h i hi
    omega
theorem IntsZ.nats {w : World} {a : Option Addr} {c : Nat} {l : List Nat} (h : IntsZ w a c (l.map fun q : Nat => (q : Int))) : Ints w a c l := by
  refine ⟨by have := h.len; simpa using this, h.cap, ?_⟩
  rcases h.at_ with e | ⟨b, off, e, hc⟩
  · exact .inl (by simpa using e)
  · refine .inr ⟨b, off, e, fun j hj => ?_⟩
    have h1 := hc j (by simpa using hj)
    rwa [List.getElem_map] at h1
theorem nodup_of {l : List Nat} (h : ∀ i (hi : i < (l.map fun q : Nat => (q : Int)).length) j (h' : j < i), (l.map fun q : Nat => (q : Int))[i] ≠ (l.map fun q : Nat => (q : Int))[j]) : l.Nodup := by
  rw [List.nodup_iff_pairwise_ne, List.pairwise_iff_getElem]
  intro i j hi hj hij e
  have h1 := h j (by simpa using hj) i hij
  rw [List.getElem_map, List.getElem_map, e] at h1
  exact h1 rfl
/-- The two operations' cells. -/
def ops2 (s s' : ByteArray) (a : Option Addr) (l c : Nat) : Array Value := #[.int .i64 1, .string s, .slice a l c, .int .i64 0, .bool false, .int .u64 0, .int .u64 0, .int .i64 1, .string s', .slice a l c, .int .i64 0, .bool false, .int .u64 0, .int .u64 0]
theorem circ2 {W : World} {b : Nat} {e e' : En} {aq : Option Addr} {cq : Nat} {qs : List Nat} {n : Nat} (h : W.heap[b]? = some (.cells (ops2 e.name e'.name aq qs.length cq) 28)) (h1 : (⟨e, aq, cq, qs⟩ : Gop).Ok n) (h2 : (⟨e', aq, cq, qs⟩ : Gop).Ok n) (hi : Ints W aq cq qs) : Circ W n (some ⟨b, 0, none⟩) 2 [⟨e, aq, cq, qs⟩, ⟨e', aq, cq, qs⟩] := by
  refine ⟨by simp, by decide, ?_, ?_, .inr ⟨b, 0, rfl, ?_⟩⟩
  · intro g hg
    rcases List.mem_cons.1 hg with rfl | hg
    · exact h1
    · rw [List.mem_singleton.1 hg]; exact h2
  · intro g hg
    rcases List.mem_cons.1 hg with rfl | hg
    · exact hi
    · rw [List.mem_singleton.1 hg]; exact hi
  · intro j hj
    have hj2 : j = 0 ∨ j = 1 := by simp at hj; omega
    rcases hj2 with rfl | rfl
    · exact ⟨cell_at (i := 0) h rfl, cell_at (i := 1) h rfl, cell_at (i := 2) h rfl, cell_at (i := 3) h rfl, cell_at (i := 4) h rfl, cell_at (i := 5) h rfl, cell_at (i := 6) h rfl⟩
    · exact ⟨cell_at (i := 7) h rfl, cell_at (i := 8) h rfl, cell_at (i := 9) h rfl, cell_at (i := 10) h rfl, cell_at (i := 11) h rfl, cell_at (i := 12) h rfl, cell_at (i := 13) h rfl⟩
def oq (s : ByteArray) (aq : Option Addr) (cq : Nat) (qs : List Int) : Oq := ⟨1, s, aq, cq, qs, 0, false, 0, 0⟩
theorem circq2 {W : World} {b : Nat} {s s' : ByteArray} {aq : Option Addr} {cq : Nat} {qs : List Int} (h : W.heap[b]? = some (.cells (ops2 s s' aq qs.length cq) 28)) (hi : IntsZ W aq cq qs) : CircQ W (some ⟨b, 0, none⟩) 2 [oq s aq cq qs, oq s' aq cq qs] := by
  refine ⟨by simp, by decide, ?_, .inr ⟨b, 0, rfl, ?_⟩⟩
  · intro g hg
    rcases List.mem_cons.1 hg with rfl | hg
    · exact hi
    · rw [List.mem_singleton.1 hg]; exact hi
  · intro j hj
    have hj2 : j = 0 ∨ j = 1 := by simp at hj; omega
    rcases hj2 with rfl | rfl
    · exact ⟨cell_at (i := 0) h rfl, cell_at (i := 1) h rfl, cell_at (i := 2) h rfl, cell_at (i := 3) h rfl, cell_at (i := 4) h rfl, cell_at (i := 5) h rfl, cell_at (i := 6) h rfl⟩
    · exact ⟨cell_at (i := 7) h rfl, cell_at (i := 8) h rfl, cell_at (i := 9) h rfl, cell_at (i := 10) h rfl, cell_at (i := 11) h rfl, cell_at (i := 12) h rfl, cell_at (i := 13) h rfl⟩
/-- The operations, the circuit's variable. -/
structure G0 (w : World) (b n : Nat) (s s' : ByteArray) (aq : Option Addr) (l cq : Nat) (W : World) : Prop where
  below : Below w.heap.size w W
  ops : W.heap[b]? = some (.cells (ops2 s s' aq l cq) 28)
  box : W.heap[b + 1]? = some (.cells #[.int .i64 n, .int .i64 0, .slice (some ⟨b, 0, none⟩) 2 2] 31)
  ge : w.heap.size ≤ b
theorem G0.start {w W : World} (h : Below w.heap.size w W) (n : Nat) (s s' : ByteArray) (aq : Option Addr) (l cq : Nat) : G0 w W.heap.size n s s' aq l cq ((W.alloc (.cells (ops2 s s' aq l cq) 28)).alloc (.cells #[.int .i64 n, .int .i64 0, .slice (some ⟨W.heap.size, 0, none⟩) 2 2] 31)) :=
  ⟨(h.alloc h.size _).alloc (h.alloc h.size _).size _, Below.heap_some (below1 _ _) (newB _ _ rfl), newB (k := W.heap.size + 1) _ _ (by simp), h.size⟩
theorem G0.next {w W W' : World} {b n l cq : Nat} {s s' : ByteArray} {aq : Option Addr} (h : G0 w b n s s' aq l cq W) (hb : Below W.heap.size W W') : G0 w b n s s' aq l cq W' :=
  ⟨h.below.trans (hb.mono h.below.size), Below.heap_some hb h.ops, Below.heap_some hb h.box, h.ge⟩
theorem sum2_le (e e' : En) (he : e ∈ gates) (he' : e' ∈ gates) (aq : Option Addr) (cq : Nat) (qs : List Nat) : sumH [⟨e, aq, cq, qs⟩, ⟨e', aq, cq, qs⟩] ≤ 36 := by
  have h1 := ha_le e he
  have h2 := ha_le e' he'
  simp [sumH]
  omega
set_option maxRecDepth 100000 in
set_option maxHeartbeats 4000000 in
theorem wholeGates_walk (name : ByteArray) (aq : Option Addr) (cq : Nat) (qs : List Int) (n : Int) (x : Nat) (hx : x < 2 ^ 64) (w : World) (hi : IntsZ w aq cq qs) :
    Calls Tryz.prog 3 #[.string name, .slice aq qs.length cq, .int .i64 n, .int .u64 x] w fun e w' => e = .returned (.bool true) ∧ Below w.heap.size w w' := by
  have HI := Lib.hid hi
  have g6 := lit_calls w
  have h1 := bd28
  have h2 := bd31
  have h3 := bd31'
  clear hi
  rcases gname_or name with ⟨e, he, rfl⟩ | hno
  · have g7 := fun w => rinverse_calls e he w
    obtain ⟨e', he', hbk, har⟩ := back_mem e he
    have HE := Lib.hid he
    have HE' := Lib.hid he'
    have HBK := Lib.hid hbk
    have HAR := Lib.hid har
    rw [← hbk] at g7
    clear he he' hbk har
    by_cases hn0 : n < 0
    · have d0 : decide (n < 0) = true := decide_eq_true hn0
      go_enter Tryz.func3, Tryz.ntmps3
      go_wp2_with (first | (go_at_call 6; refine g6.mono ?_; rintro z w1 ⟨rfl, hb⟩; have HB := Lib.hid hb; clear hb) | (go_at_call 7; refine (g7 _).mono ?_; rintro z w2 ⟨rfl, rfl⟩))
      go_ret
      exact ⟨rfl, HB.out⟩
    have d0 : decide (n < 0) = false := decide_eq_false hn0
    by_cases hn1 : 10 < n
    · have d1 : decide (10 < n) = true := decide_eq_true hn1
      go_enter Tryz.func3, Tryz.ntmps3
      go_wp2_with (first | (go_at_call 6; refine g6.mono ?_; rintro z w1 ⟨rfl, hb⟩; have HB := Lib.hid hb; clear hb) | (go_at_call 7; refine (g7 _).mono ?_; rintro z w2 ⟨rfl, rfl⟩))
      go_ret
      exact ⟨rfl, HB.out⟩
    have d1 : decide (10 < n) = false := decide_eq_false hn1
    obtain ⟨n, rfl⟩ : ∃ m : Nat, n = (m : Int) := ⟨n.toNat, by omega⟩
    have hn : n ≤ 10 := by omega
    go_enter Tryz.func3, Tryz.ntmps3
    go_wp2_with (first | (go_at_call 6; refine g6.mono ?_; rintro z w1 ⟨rfl, hb⟩; have HB := Lib.hid hb; clear hb) | (go_at_call 7; refine (g7 _).mono ?_; rintro z w2 ⟨rfl, rfl⟩))
    have HS := Lib.hid (G0.start HB.out n e.name e'.name aq qs.length cq)
    have g8 := fun W h => rcheck_any n 0 (some ⟨w2.heap.size, 0, none⟩) 2 [oq e.name aq cq qs, oq e'.name aq cq qs] W h
    simp only [List.length_cons, List.length_nil, Nat.zero_add, Nat.reduceAdd] at g8
    go_at_call 8
    refine (g8 _ (circq2 HS.out.ops (HI.out.below HS.out.below))).mono ?_
    rintro z w3 ⟨i, er, rfl, hck, hb3⟩
    replace HS := Lib.hid (HS.out.next hb3)
    have HCK := Lib.hid hck
    clear hb3 hck g8 g6 g7 HB
    generalize w2.heap.size = b at *
    by_cases her : er = 0
    · subst her
      have HOK := Lib.hid (HCK.out rfl)
      clear HCK
      obtain ⟨l, rfl, hlt⟩ := nats_of n qs (by
        have h := (HOK.out.fine 0 (by simp)).rng
        simpa [oq] using h)
      have hnd : l.Nodup := nodup_of (by
        have h := (HOK.out.fine 0 (by simp)).nd
        simpa [oq] using h)
      have hlen : l.length = e.ar := by
        obtain ⟨en, hen, hnm, hl⟩ := (HOK.out.fine 0 (by simp)).gate rfl
        have hu : ∀ a ∈ gates, ∀ c ∈ gates, a.name = c.name → a.ar = c.ar := by decide +kernel
        have h2 := hu en hen e HE.out hnm
        rw [← h2, ← hl]
        simp [oq]
      have hok1 : (⟨e, aq, cq, l⟩ : Gop).Ok n := ⟨HE.out, hlen, hlt, hnd⟩
      have hok2 : (⟨e', aq, cq, l⟩ : Gop).Ok n := ⟨HE'.out, hlen.trans HAR.out.symm, hlt, hnd⟩
      have HCIRC : Hid (∀ W, Below w3.heap.size w3 W → Circ W n (some ⟨b, 0, none⟩) 2 [⟨e, aq, cq, l⟩, ⟨e', aq, cq, l⟩]) := Lib.hid fun W hb => by
        have h1 := HS.out.ops
        rw [List.length_map] at h1
        exact (circ2 h1 hok1 hok2 (HI.out.below HS.out.below).nats).below hb
      have hxn : x % 2 ^ n < 2 ^ n := Nat.mod_lt _ (Nat.two_pow_pos n)
      have hxn2 : x % 2 ^ n < 2 ^ 64 := Nat.lt_of_lt_of_le hxn (Nat.pow_le_pow_right (by decide) (by omega))
      have g9 := fun w => within_calls n 0 x hn hx (some ⟨b, 0, none⟩) 2 2 w
      have g10 := fun w => state0_calls n (x % 2 ^ n) hn hxn w
      have g11 := fun w h => ran_calls n 0 (x % 2 ^ n) hn (by decide) hxn2 (some ⟨b, 0, none⟩) 2 [⟨e, aq, cq, l⟩, ⟨e', aq, cq, l⟩] w h (by simp) (sum2_le e e' HE.out HE'.out aq cq l)
      rw [Nat.mod_mod, gate_back hxn hok1 hok2 rfl HBK.out] at g11
      simp only [List.length_cons, List.length_nil, Nat.zero_add, Nat.reduceAdd] at g11
      have HBP : Hid (∀ W B, OwnR W B (basisR n (x % 2 ^ n)) → Rings W (some ⟨B, 0, none⟩) (2 ^ n) (basisR n (x % 2 ^ n))) := Lib.hid fun W B h => by
        have h1 := h.rings (fun r hr => ((basis_good n _ hxn).bd r hr).pt (by decide)) (by rw [basis_len]; have := pow_le hn; omega)
        rw [basis_len] at h1
        exact h1
      have g12 := fun a1 c1 a2 c2 w h1 h2 => same_calls n 0 a1 c1 a2 c2 (basisR n (x % 2 ^ n)) w h1 h2
      rw [basis_len] at g12
      clear hok1 hok2 hlen hnd hlt hxn hxn2 HOK
      generalize x % 2 ^ n = y at *
      generalize 2 ^ n = N at *
      have p0 := cell_at (i := 0) HS.out.box rfl
      have p1 := cell_at (i := 1) HS.out.box rfl
      have p2 := cell_at (i := 2) HS.out.box rfl
      go_wp2_with fail
      go_at_call 9
      refine (g9 _).mono ?_
      rintro z w4 ⟨rfl, hb4⟩
      have HS4 := Lib.hid (HS.out.next hb4)
      have HB4 := Lib.hid hb4
      clear hb4 p0 p1 p2 g9
      go_wp2_with fail
      go_at_call 10
      refine (g10 _).mono ?_
      rintro z w5 ⟨B1, rfl, ho5, hlo5, hb5⟩
      have HS5 := Lib.hid (HS4.out.next hb5)
      have HB5 := Lib.hid (HB4.out.trans (hb5.mono HB4.out.size))
      have HO5 := Lib.hid ho5
      clear hb5 ho5 hlo5 g10
      have p0 := cell_at (i := 0) HS5.out.box rfl
      have p1 := cell_at (i := 1) HS5.out.box rfl
      have p2 := cell_at (i := 2) HS5.out.box rfl
      have plt := block_lt p0
      go_wp2_with fail
      have hb6 : Below w3.heap.size w3 (w5.alloc (.cells #[.int .i64 n, .int .i64 0, .slice (some ⟨B1, 0, none⟩) N N] 37)) := HB5.out.alloc HB5.out.size _
      go_at_call 11
      refine (g11 _ (HCIRC.out _ hb6)).mono ?_
      rintro z w6 ⟨B2, rfl, ho6, hlo6, hb7⟩
      have HR2 := Lib.hid ((HBP.out _ _ ho6).below (below1 _ (.cells #[.int .i64 n, .int .i64 0, .slice (some ⟨B2, 0, none⟩) N N] 37)))
      have HR1 := Lib.hid ((HBP.out _ _ ((HO5.out.below (below1 _ _)).below hb7)).below (below1 _ (.cells #[.int .i64 n, .int .i64 0, .slice (some ⟨B2, 0, none⟩) N N] 37)))
      have hv : w6.heap[w5.heap.size]? = some (.cells #[.int .i64 n, .int .i64 0, .slice (some ⟨B1, 0, none⟩) N N] 37) := Below.heap_some hb7 (newB _ _ rfl)
      have HB7 : Hid (Below w.heap.size w w6) := Lib.hid ((HS5.out.below.alloc HS5.out.below.size _).trans (hb7.mono (HS5.out.below.alloc HS5.out.below.size _).size))
      have v0 := cell_at (i := 0) hv rfl
      have v1 := cell_at (i := 1) hv rfl
      have v2 := cell_at (i := 2) hv rfl
      have vlt := block_lt v0
      clear p0 p1 p2 plt ho6 hlo6 hb7 hv hb6
      go_wp2_with fail
      go_at_call 12
      refine (g12 _ _ _ _ _ HR2.out HR1.out).mono ?_
      rintro z w7 ⟨rfl, hb8⟩
      have HB8 := Lib.hid ((HB7.out.alloc HB7.out.size _).trans (hb8.mono (HB7.out.alloc HB7.out.size _).size))
      clear hb8 v0 v1 v2 vlt
      go_wp2_with fail
      go_ret
      exact ⟨rfl, HB8.out⟩
    · have her1 : (er != 0) = true := by simpa using her
      go_wp2_with fail
      go_ret
      exact ⟨rfl, HS.out.below⟩
  · have g7 := fun w => rinverse_none name hno w
    clear hno
    go_enter Tryz.func3, Tryz.ntmps3
    go_wp2_with (first | (go_at_call 6; refine g6.mono ?_; rintro z w1 ⟨rfl, hb⟩; have HB := Lib.hid hb; clear hb) | (go_at_call 7; refine (g7 _).mono ?_; rintro z w2 ⟨rfl, rfl⟩))
    go_ret
    exact ⟨rfl, HB.out⟩
end Go.Proofs.YtlobgpgdknjhlaaGreat.WH
