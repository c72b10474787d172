/- gate.kinds: walked. -/
import Derived.Test.YtlobgpgdknjhlaaGreatWhG
import Derived.Maps.OwnIn
import Derived.Laws.Rows
namespace Go.Proofs.YtlobgpgdknjhlaaGreat.WH
open Go Go.RowKit Go.Maps Go.Proofs.YtlobgpgdknjhlaaGreat.F
set_option linter.unusedVariables false
set_option linter.unusedSimpArgs false

theorem law9 : Keyed Tryz.prog 9 := string_keyed Tryz.underlying9
/-- An element of the map, as it stands. -/
def rd (v : Value) : Option (DataW Value × List MemPlace) := some (.held v, [])
/-- What is known of a gate. -/
structure En where
  name : ByteArray
  ar : Nat
  ha : Nat
  cl : Bool
  di : Bool
  back : ByteArray
  f : Nat → List Ce
def En.val (e : En) (v : Value) : Value := .agg #[.int .i64 e.ar, .int .i64 e.ha, .bool e.cl, .bool e.di, .string e.back, v]
def dOf : List (En × Value) → DataW Value
  | [] => .map []
  | x :: L => (dOf L).put (.string x.1.name.data.toList) (.held (x.1.val x.2))
/-- The map of the gates, as far as it has come. -/
structure KM (w : World) (B : Nat) (L : List (En × Value)) (W : World) : Prop where
  below : Below w.heap.size w W
  map : W.ownsMap Tryz.prog 9 rd B L.length (dOf L)
  col : ∀ x ∈ L, Col B W x.2 x.1.f
  lo : w.heap.size ≤ B
  lt : B < W.heap.size
theorem KM.step {w W W' : World} {B : Nat} {L : List (En × Value)} (h : KM w B L W) (hb : Below W.heap.size W W') : KM w B L W' :=
  ⟨h.below.trans (hb.mono h.below.size), h.map.kept (row := none) ⟨hb.os, hb.tape, hb.output, hb.size, fun k hk _ => hb.block k hk⟩ (by simp), fun x hx => (h.col x hx).but (But.of hb), h.lo, Nat.lt_of_lt_of_le h.lt hb.size⟩
theorem KM.put {w W W' : World} {B : Nat} {L : List (En × Value)} (h : KM w B L W) (x : En × Value) (hc : Col B W x.2 x.1.f) (hm : W'.ownsMap Tryz.prog 9 rd B (L.length + 1) ((dOf L).put (.string x.1.name.data.toList) (.held (x.1.val x.2)))) (hg : W.grownBy W' (some B)) : KM w B (x :: L) W' := by
  have hb : But B W W' := ⟨hg.os, hg.tape, hg.output, hg.size, fun k hk hne => hg.block k hk (fun e => hne (Option.some.inj e))⟩
  refine ⟨h.below.trans ⟨hg.os, hg.tape, hg.output, hg.size, fun k hk => hg.block k (Nat.lt_of_lt_of_le hk h.below.size) (fun e => by have := Option.some.inj e; have := h.lo; omega)⟩, hm, fun y hy => ?_, h.lo, Nat.lt_of_lt_of_le h.lt hg.size⟩
  rcases List.mem_cons.1 hy with rfl | hy
  · exact hc.but hb
  · exact (h.col y hy).but hb
theorem wpList_insert_own {w : World} {ops : Array Oper} {rest : List Oper} {o : Oper} {a : Act} {Q : Exit → Act → World → Prop}
    (hg : o.guard = none) (m x v : Operand) (hop : o.op = Op.insert 140 m x v) (b n : Nat) (D : DataW Value)
    (hm : a.eval m = .map (some b)) (hown : w.ownsMap Tryz.prog 9 rd b n D) (hn : n < maxLen) (key : ByteArray) (val : Value) (hx : a.eval x = .string key) (hv : a.eval v = val) (hk : key.size ≤ maxLen)
    (hK : ∀ w', w'.ownsMap Tryz.prog 9 rd b (n + 1) (D.put (.string key.data.toList) (.held val)) → w.grownBy w' (some b) → wpList Tryz.prog ops Q rest (a.put o.dst undef) w') :
    wpList Tryz.prog ops Q (o :: rest) a w := by
  refine wpList_plain hg fun K' hK' => ?_
  obtain ⟨w', hrun, r1, r2⟩ := hown.update law9 Tryz.underlying140 hn (key := .string key) (val := val) (kl := .string key.data.toList) (d := .held val) (ps := []) (Go.WideMaps.keyOf_string_mk Tryz.underlying9 hk) rfl
  unfold Oper.wp
  simp [execOp, hop, hm, hx, hv, hrun, Result.andThen]
  exact hK' _ _ (hK w' r1 r2)
def e_i : En := ⟨(⟨#[105]⟩ : ByteArray), 1, 0, true, true, (⟨#[105]⟩ : ByteArray), (flipC 0 [0])⟩
def e_x : En := ⟨(⟨#[120]⟩ : ByteArray), 1, 0, true, false, (⟨#[120]⟩ : ByteArray), (flipC 1 [0])⟩
def e_y : En := ⟨(⟨#[121]⟩ : ByteArray), 1, 0, true, false, (⟨#[121]⟩ : ByteArray), (flipC 1 [2, 6])⟩
def e_z : En := ⟨(⟨#[122]⟩ : ByteArray), 1, 0, true, true, (⟨#[122]⟩ : ByteArray), (lastC 1 4)⟩
def e_h : En := ⟨(⟨#[104]⟩ : ByteArray), 1, 1, true, false, (⟨#[104]⟩ : ByteArray), (mixedC 0 0 4)⟩
def e_s : En := ⟨(⟨#[115]⟩ : ByteArray), 1, 0, true, true, (⟨#[115, 100, 103]⟩ : ByteArray), (lastC 1 2)⟩
def e_sdg : En := ⟨(⟨#[115, 100, 103]⟩ : ByteArray), 1, 0, true, true, (⟨#[115]⟩ : ByteArray), (lastC 1 6)⟩
def e_t : En := ⟨(⟨#[116]⟩ : ByteArray), 1, 0, false, true, (⟨#[116, 100, 103]⟩ : ByteArray), (lastC 1 1)⟩
def e_tdg : En := ⟨(⟨#[116, 100, 103]⟩ : ByteArray), 1, 0, false, true, (⟨#[116]⟩ : ByteArray), (lastC 1 7)⟩
def e_v : En := ⟨(⟨#[118]⟩ : ByteArray), 1, 1, true, false, (⟨#[118, 100, 103]⟩ : ByteArray), (mixedC 1 7 1)⟩
def e_vdg : En := ⟨(⟨#[118, 100, 103]⟩ : ByteArray), 1, 1, true, false, (⟨#[118]⟩ : ByteArray), (mixedC 7 1 7)⟩
def e_w : En := ⟨(⟨#[119]⟩ : ByteArray), 1, 0, true, true, (⟨#[119, 100, 103]⟩ : ByteArray), (flipC 0 [1])⟩
def e_wdg : En := ⟨(⟨#[119, 100, 103]⟩ : ByteArray), 1, 0, true, true, (⟨#[119]⟩ : ByteArray), (flipC 0 [7])⟩
def e_cx : En := ⟨(⟨#[99, 120]⟩ : ByteArray), 2, 0, true, false, (⟨#[99, 120]⟩ : ByteArray), (swapC 1 3 0)⟩
def e_cy : En := ⟨(⟨#[99, 121]⟩ : ByteArray), 2, 0, true, false, (⟨#[99, 121]⟩ : ByteArray), cyC⟩
def e_cz : En := ⟨(⟨#[99, 122]⟩ : ByteArray), 2, 0, true, true, (⟨#[99, 122]⟩ : ByteArray), (lastC 3 4)⟩
def e_ch : En := ⟨(⟨#[99, 104]⟩ : ByteArray), 2, 1, false, false, (⟨#[99, 104]⟩ : ByteArray), chC⟩
def e_cs : En := ⟨(⟨#[99, 115]⟩ : ByteArray), 2, 0, false, true, (⟨#[99, 115, 100, 103]⟩ : ByteArray), (lastC 3 2)⟩
def e_csdg : En := ⟨(⟨#[99, 115, 100, 103]⟩ : ByteArray), 2, 0, false, true, (⟨#[99, 115]⟩ : ByteArray), (lastC 3 6)⟩
def e_swap : En := ⟨(⟨#[115, 119, 97, 112]⟩ : ByteArray), 2, 0, true, false, (⟨#[115, 119, 97, 112]⟩ : ByteArray), (swapC 1 2 0)⟩
def e_iswap : En := ⟨(⟨#[105, 115, 119, 97, 112]⟩ : ByteArray), 2, 0, true, false, (⟨#[105, 115, 119, 97, 112, 100, 103]⟩ : ByteArray), (swapC 1 2 2)⟩
def e_iswapdg : En := ⟨(⟨#[105, 115, 119, 97, 112, 100, 103]⟩ : ByteArray), 2, 0, true, false, (⟨#[105, 115, 119, 97, 112]⟩ : ByteArray), (swapC 1 2 6)⟩
def e_ccx : En := ⟨(⟨#[99, 99, 120]⟩ : ByteArray), 3, 0, false, false, (⟨#[99, 99, 120]⟩ : ByteArray), (swapC 3 7 0)⟩
def e_ccz : En := ⟨(⟨#[99, 99, 122]⟩ : ByteArray), 3, 0, false, true, (⟨#[99, 99, 122]⟩ : ByteArray), (lastC 7 4)⟩
def e_cswap : En := ⟨(⟨#[99, 115, 119, 97, 112]⟩ : ByteArray), 3, 0, false, false, (⟨#[99, 115, 119, 97, 112]⟩ : ByteArray), (swapC 3 5 0)⟩
theorem flip' (B b : Nat) (ts : List Nat) (T T' : Nat) (c len : Nat) (bi : Int) (w : World) (hbi : bi = ((b : Nat) : Int)) (hlen : len = ts.length) (hTT : T' = T) (hB : B < w.heap.size) (hT : T ≠ B) (hb : b < 2) (ht : 0 < ts.length) (hI : Ints w (some ⟨T, 0, none⟩) c ts) : Calls Tryz.prog 95 #[.int .i64 bi, .slice (some ⟨T', 0, none⟩) len c] w fun e w' => ∃ v, e = .returned v ∧ Col B w' v (flipC b ts) ∧ Below w.heap.size w w' := by
  subst hbi hlen hTT
  exact flip_makes B b ts _ c w hB hT hb ht hI
theorem last' (B n t : Nat) (ni ti : Int) (w : World) (hn : ni = ((n : Nat) : Int)) (ht : ti = ((t : Nat) : Int)) (hB : B < w.heap.size) : Calls Tryz.prog 96 #[.int .i64 ni, .int .i64 ti] w fun e w' => ∃ v, e = .returned v ∧ Col B w' v (lastC n t) ∧ Below w.heap.size w w' := by
  subst hn ht
  exact last_makes B n t w hB
theorem mixed' (B a b c : Nat) (ai bi ci : Int) (w : World) (ha : ai = ((a : Nat) : Int)) (hb : bi = ((b : Nat) : Int)) (hc : ci = ((c : Nat) : Int)) (hB : B < w.heap.size) : Calls Tryz.prog 97 #[.int .i64 ai, .int .i64 bi, .int .i64 ci] w fun e w' => ∃ v, e = .returned v ∧ Col B w' v (mixedC a b c) ∧ Below w.heap.size w w' := by
  subst ha hb hc
  exact mixed_makes B a b c w hB
theorem swap' (B a b c : Nat) (ai bi ci : Int) (w : World) (ha : ai = ((a : Nat) : Int)) (hb : bi = ((b : Nat) : Int)) (hc : ci = ((c : Nat) : Int)) (hB : B < w.heap.size) : Calls Tryz.prog 98 #[.int .i64 ai, .int .i64 bi, .int .i64 ci] w fun e w' => ∃ v, e = .returned v ∧ Col B w' v (swapC a b c) ∧ Below w.heap.size w w' := by
  subst ha hb hc
  exact swap_makes B a b c w hB
theorem bd139 (a b : Int) (c d : Bool) (s : ByteArray) (f : Fn) (p q : Array Value) (w : World) : (Instr.build 139 #[(0, .int .i64 a), (1, .int .i64 b), (2, .bool c), (3, .bool d), (4, .string s), (5, .func f p q)]).run Tryz.prog w = .ok (.agg #[.int .i64 a, .int .i64 b, .bool c, .bool d, .string s, .func f p q]) w := run_build w 139 _ _ (by kernel_rfl)
theorem Col.shape {B : Nat} {W : World} {v : Value} {f : Nat → List Ce} (h : Col B W v f) : ∃ fn cap, v = .func (.func fn) #[] cap := by
  obtain ⟨fn, cap, e, _⟩ := h
  exact ⟨fn, cap, e⟩
theorem ints_new (W : World) (qs : List Nat) (cs : Array Value) (h : cs.toList = qs.map fun q => Value.int .i64 ((q : Nat) : Int)) (hl : qs.length ≤ 8) : Ints (W.alloc (.cells cs 3)) (some ⟨W.heap.size, 0, none⟩) qs.length qs := by
  refine ⟨Nat.le_refl _, by omega, .inr ⟨W.heap.size, 0, rfl, fun j hj => ?_⟩⟩
  refine cell_at (newB _ _ rfl) ?_
  rw [← Array.getElem?_toList, h, Nat.zero_add]
  simp [hj]
set_option maxRecDepth 100000 in
set_option maxHeartbeats 64000000 in
theorem kinds_calls (w : World) : Calls Tryz.prog 71 #[] w fun e w' => ∃ (B : Nat) (L : List (En × Value)), e = .returned (.map (some B)) ∧ KM w B L w' ∧ L.map (·.1) = [e_cswap, e_ccz, e_ccx, e_iswapdg, e_iswap, e_swap, e_csdg, e_cs, e_ch, e_cz, e_cy, e_cx, e_wdg, e_w, e_vdg, e_v, e_tdg, e_t, e_sdg, e_s, e_h, e_z, e_y, e_x, e_i] := by
  have hbd := bd139
  have hmk : ∀ w, Sem.run Tryz.prog (Instr.makeMap 140 none) w = .ok (.map (some w.heap.size)) (w.alloc (.map #[] 0)) := fun w => rfl
  have HK : Hid (KM w w.heap.size [] (w.alloc (.map #[] 0))) := Lib.hid ⟨below1 _ _, World.ownsMap_made w Tryz.prog 9 rd, fun x hx => (by cases hx), Nat.le_refl _, by simp⟩
  go_enter Tryz.func71, Tryz.ntmps71
  have hl := HK.out.lt
  replace HK := Lib.hid (HK.out.step (below1 _ (.cells #[.int .i64 0] 3)))
  go_wp2_with fail
  go_at_call 95
  refine (flip' w.heap.size 0 [0] _ _ _ _ _ _ (by decide) rfl (by simp) HK.out.lt (Nat.ne_of_gt hl) (by decide) (by decide) (ints_new _ [0] _ rfl (by decide))).mono ?_
  rintro e u0 ⟨v0, rfl, hc, hb⟩
  obtain ⟨fn0, cap0, rfl⟩ := hc.shape
  replace HK := Lib.hid (HK.out.step hb)
  have HC := Lib.hid hc
  clear hb hc
  try clear hl
  skip
  have hl1 : 0 < maxLen := by unfold maxLen; omega
  have hl2 : (⟨#[105]⟩ : ByteArray).size ≤ maxLen := by show 1 ≤ maxLen; unfold maxLen; omega
  obtain ⟨w1, hrun0, hm, hg⟩ := HK.out.map.update law9 Tryz.underlying140 hl1 (key := .string (⟨#[105]⟩ : ByteArray)) (val := .agg #[.int .i64 1, .int .i64 0, .bool true, .bool true, .string (⟨#[105]⟩ : ByteArray), (.func (.func fn0) #[] cap0)]) (kl := .string ((⟨#[105]⟩ : ByteArray)).data.toList) (d := .held (.agg #[.int .i64 1, .int .i64 0, .bool true, .bool true, .string (⟨#[105]⟩ : ByteArray), (.func (.func fn0) #[] cap0)])) (ps := []) (Go.WideMaps.keyOf_string_mk Tryz.underlying9 hl2) rfl
  replace HK := Lib.hid (HK.out.put (e_i, (.func (.func fn0) #[] cap0)) HC.out hm hg)
  clear hm hg HC hl1 hl2
  have hl := HK.out.lt
  replace HK := Lib.hid (HK.out.step (below1 _ (.cells #[.int .i64 0] 3)))
  go_wp2_with fail
  go_at_call 95
  refine (flip' w.heap.size 1 [0] _ _ _ _ _ _ (by decide) rfl (by simp) HK.out.lt (Nat.ne_of_gt hl) (by decide) (by decide) (ints_new _ [0] _ rfl (by decide))).mono ?_
  rintro e u1 ⟨v1, rfl, hc, hb⟩
  obtain ⟨fn1, cap1, rfl⟩ := hc.shape
  replace HK := Lib.hid (HK.out.step hb)
  have HC := Lib.hid hc
  clear hb hc
  try clear hl
  skip
  have hl1 : 1 < maxLen := by unfold maxLen; omega
  have hl2 : (⟨#[120]⟩ : ByteArray).size ≤ maxLen := by show 1 ≤ maxLen; unfold maxLen; omega
  obtain ⟨w2, hrun1, hm, hg⟩ := HK.out.map.update law9 Tryz.underlying140 hl1 (key := .string (⟨#[120]⟩ : ByteArray)) (val := .agg #[.int .i64 1, .int .i64 0, .bool true, .bool false, .string (⟨#[120]⟩ : ByteArray), (.func (.func fn1) #[] cap1)]) (kl := .string ((⟨#[120]⟩ : ByteArray)).data.toList) (d := .held (.agg #[.int .i64 1, .int .i64 0, .bool true, .bool false, .string (⟨#[120]⟩ : ByteArray), (.func (.func fn1) #[] cap1)])) (ps := []) (Go.WideMaps.keyOf_string_mk Tryz.underlying9 hl2) rfl
  replace HK := Lib.hid (HK.out.put (e_x, (.func (.func fn1) #[] cap1)) HC.out hm hg)
  clear hm hg HC hl1 hl2
  have hl := HK.out.lt
  replace HK := Lib.hid (HK.out.step (below1 _ (.cells #[.int .i64 2, .int .i64 6] 3)))
  go_wp2_with fail
  go_at_call 95
  refine (flip' w.heap.size 1 [2, 6] _ _ _ _ _ _ (by decide) rfl (by simp) HK.out.lt (Nat.ne_of_gt hl) (by decide) (by decide) (ints_new _ [2, 6] _ rfl (by decide))).mono ?_
  rintro e u2 ⟨v2, rfl, hc, hb⟩
  obtain ⟨fn2, cap2, rfl⟩ := hc.shape
  replace HK := Lib.hid (HK.out.step hb)
  have HC := Lib.hid hc
  clear hb hc
  try clear hl
  (try clear hrun1) <;> (try clear hrun0)
  have hl1 : 2 < maxLen := by unfold maxLen; omega
  have hl2 : (⟨#[121]⟩ : ByteArray).size ≤ maxLen := by show 1 ≤ maxLen; unfold maxLen; omega
  obtain ⟨w3, hrun2, hm, hg⟩ := HK.out.map.update law9 Tryz.underlying140 hl1 (key := .string (⟨#[121]⟩ : ByteArray)) (val := .agg #[.int .i64 1, .int .i64 0, .bool true, .bool false, .string (⟨#[121]⟩ : ByteArray), (.func (.func fn2) #[] cap2)]) (kl := .string ((⟨#[121]⟩ : ByteArray)).data.toList) (d := .held (.agg #[.int .i64 1, .int .i64 0, .bool true, .bool false, .string (⟨#[121]⟩ : ByteArray), (.func (.func fn2) #[] cap2)])) (ps := []) (Go.WideMaps.keyOf_string_mk Tryz.underlying9 hl2) rfl
  replace HK := Lib.hid (HK.out.put (e_y, (.func (.func fn2) #[] cap2)) HC.out hm hg)
  clear hm hg HC hl1 hl2
  go_wp2_with fail
  go_at_call 96
  refine (last' w.heap.size 1 4 _ _ _ (by decide) (by decide) HK.out.lt).mono ?_
  rintro e u3 ⟨v3, rfl, hc, hb⟩
  obtain ⟨fn3, cap3, rfl⟩ := hc.shape
  replace HK := Lib.hid (HK.out.step hb)
  have HC := Lib.hid hc
  clear hb hc
  try clear hl
  (try clear hrun2) <;> (try clear hrun1)
  have hl1 : 3 < maxLen := by unfold maxLen; omega
  have hl2 : (⟨#[122]⟩ : ByteArray).size ≤ maxLen := by show 1 ≤ maxLen; unfold maxLen; omega
  obtain ⟨w4, hrun3, hm, hg⟩ := HK.out.map.update law9 Tryz.underlying140 hl1 (key := .string (⟨#[122]⟩ : ByteArray)) (val := .agg #[.int .i64 1, .int .i64 0, .bool true, .bool true, .string (⟨#[122]⟩ : ByteArray), (.func (.func fn3) #[] cap3)]) (kl := .string ((⟨#[122]⟩ : ByteArray)).data.toList) (d := .held (.agg #[.int .i64 1, .int .i64 0, .bool true, .bool true, .string (⟨#[122]⟩ : ByteArray), (.func (.func fn3) #[] cap3)])) (ps := []) (Go.WideMaps.keyOf_string_mk Tryz.underlying9 hl2) rfl
  replace HK := Lib.hid (HK.out.put (e_z, (.func (.func fn3) #[] cap3)) HC.out hm hg)
  clear hm hg HC hl1 hl2
  go_wp2_with fail
  go_at_call 97
  refine (mixed' w.heap.size 0 0 4 _ _ _ _ (by decide) (by decide) (by decide) HK.out.lt).mono ?_
  rintro e u4 ⟨v4, rfl, hc, hb⟩
  obtain ⟨fn4, cap4, rfl⟩ := hc.shape
  replace HK := Lib.hid (HK.out.step hb)
  have HC := Lib.hid hc
  clear hb hc
  try clear hl
  (try clear hrun3) <;> (try clear hrun2)
  have hl1 : 4 < maxLen := by unfold maxLen; omega
  have hl2 : (⟨#[104]⟩ : ByteArray).size ≤ maxLen := by show 1 ≤ maxLen; unfold maxLen; omega
  obtain ⟨w5, hrun4, hm, hg⟩ := HK.out.map.update law9 Tryz.underlying140 hl1 (key := .string (⟨#[104]⟩ : ByteArray)) (val := .agg #[.int .i64 1, .int .i64 1, .bool true, .bool false, .string (⟨#[104]⟩ : ByteArray), (.func (.func fn4) #[] cap4)]) (kl := .string ((⟨#[104]⟩ : ByteArray)).data.toList) (d := .held (.agg #[.int .i64 1, .int .i64 1, .bool true, .bool false, .string (⟨#[104]⟩ : ByteArray), (.func (.func fn4) #[] cap4)])) (ps := []) (Go.WideMaps.keyOf_string_mk Tryz.underlying9 hl2) rfl
  replace HK := Lib.hid (HK.out.put (e_h, (.func (.func fn4) #[] cap4)) HC.out hm hg)
  clear hm hg HC hl1 hl2
  go_wp2_with fail
  go_at_call 96
  refine (last' w.heap.size 1 2 _ _ _ (by decide) (by decide) HK.out.lt).mono ?_
  rintro e u5 ⟨v5, rfl, hc, hb⟩
  obtain ⟨fn5, cap5, rfl⟩ := hc.shape
  replace HK := Lib.hid (HK.out.step hb)
  have HC := Lib.hid hc
  clear hb hc
  try clear hl
  (try clear hrun4) <;> (try clear hrun3)
  have hl1 : 5 < maxLen := by unfold maxLen; omega
  have hl2 : (⟨#[115]⟩ : ByteArray).size ≤ maxLen := by show 1 ≤ maxLen; unfold maxLen; omega
  obtain ⟨w6, hrun5, hm, hg⟩ := HK.out.map.update law9 Tryz.underlying140 hl1 (key := .string (⟨#[115]⟩ : ByteArray)) (val := .agg #[.int .i64 1, .int .i64 0, .bool true, .bool true, .string (⟨#[115, 100, 103]⟩ : ByteArray), (.func (.func fn5) #[] cap5)]) (kl := .string ((⟨#[115]⟩ : ByteArray)).data.toList) (d := .held (.agg #[.int .i64 1, .int .i64 0, .bool true, .bool true, .string (⟨#[115, 100, 103]⟩ : ByteArray), (.func (.func fn5) #[] cap5)])) (ps := []) (Go.WideMaps.keyOf_string_mk Tryz.underlying9 hl2) rfl
  replace HK := Lib.hid (HK.out.put (e_s, (.func (.func fn5) #[] cap5)) HC.out hm hg)
  clear hm hg HC hl1 hl2
  go_wp2_with fail
  go_at_call 96
  refine (last' w.heap.size 1 6 _ _ _ (by decide) (by decide) HK.out.lt).mono ?_
  rintro e u6 ⟨v6, rfl, hc, hb⟩
  obtain ⟨fn6, cap6, rfl⟩ := hc.shape
  replace HK := Lib.hid (HK.out.step hb)
  have HC := Lib.hid hc
  clear hb hc
  try clear hl
  (try clear hrun5) <;> (try clear hrun4)
  have hl1 : 6 < maxLen := by unfold maxLen; omega
  have hl2 : (⟨#[115, 100, 103]⟩ : ByteArray).size ≤ maxLen := by show 3 ≤ maxLen; unfold maxLen; omega
  obtain ⟨w7, hrun6, hm, hg⟩ := HK.out.map.update law9 Tryz.underlying140 hl1 (key := .string (⟨#[115, 100, 103]⟩ : ByteArray)) (val := .agg #[.int .i64 1, .int .i64 0, .bool true, .bool true, .string (⟨#[115]⟩ : ByteArray), (.func (.func fn6) #[] cap6)]) (kl := .string ((⟨#[115, 100, 103]⟩ : ByteArray)).data.toList) (d := .held (.agg #[.int .i64 1, .int .i64 0, .bool true, .bool true, .string (⟨#[115]⟩ : ByteArray), (.func (.func fn6) #[] cap6)])) (ps := []) (Go.WideMaps.keyOf_string_mk Tryz.underlying9 hl2) rfl
  replace HK := Lib.hid (HK.out.put (e_sdg, (.func (.func fn6) #[] cap6)) HC.out hm hg)
  clear hm hg HC hl1 hl2
  go_wp2_with fail
  go_at_call 96
  refine (last' w.heap.size 1 1 _ _ _ (by decide) (by decide) HK.out.lt).mono ?_
  rintro e u7 ⟨v7, rfl, hc, hb⟩
  obtain ⟨fn7, cap7, rfl⟩ := hc.shape
  replace HK := Lib.hid (HK.out.step hb)
  have HC := Lib.hid hc
  clear hb hc
  try clear hl
  (try clear hrun6) <;> (try clear hrun5)
  have hl1 : 7 < maxLen := by unfold maxLen; omega
  have hl2 : (⟨#[116]⟩ : ByteArray).size ≤ maxLen := by show 1 ≤ maxLen; unfold maxLen; omega
  obtain ⟨w8, hrun7, hm, hg⟩ := HK.out.map.update law9 Tryz.underlying140 hl1 (key := .string (⟨#[116]⟩ : ByteArray)) (val := .agg #[.int .i64 1, .int .i64 0, .bool false, .bool true, .string (⟨#[116, 100, 103]⟩ : ByteArray), (.func (.func fn7) #[] cap7)]) (kl := .string ((⟨#[116]⟩ : ByteArray)).data.toList) (d := .held (.agg #[.int .i64 1, .int .i64 0, .bool false, .bool true, .string (⟨#[116, 100, 103]⟩ : ByteArray), (.func (.func fn7) #[] cap7)])) (ps := []) (Go.WideMaps.keyOf_string_mk Tryz.underlying9 hl2) rfl
  replace HK := Lib.hid (HK.out.put (e_t, (.func (.func fn7) #[] cap7)) HC.out hm hg)
  clear hm hg HC hl1 hl2
  go_wp2_with fail
  go_at_call 96
  refine (last' w.heap.size 1 7 _ _ _ (by decide) (by decide) HK.out.lt).mono ?_
  rintro e u8 ⟨v8, rfl, hc, hb⟩
  obtain ⟨fn8, cap8, rfl⟩ := hc.shape
  replace HK := Lib.hid (HK.out.step hb)
  have HC := Lib.hid hc
  clear hb hc
  try clear hl
  (try clear hrun7) <;> (try clear hrun6)
  have hl1 : 8 < maxLen := by unfold maxLen; omega
  have hl2 : (⟨#[116, 100, 103]⟩ : ByteArray).size ≤ maxLen := by show 3 ≤ maxLen; unfold maxLen; omega
  obtain ⟨w9, hrun8, hm, hg⟩ := HK.out.map.update law9 Tryz.underlying140 hl1 (key := .string (⟨#[116, 100, 103]⟩ : ByteArray)) (val := .agg #[.int .i64 1, .int .i64 0, .bool false, .bool true, .string (⟨#[116]⟩ : ByteArray), (.func (.func fn8) #[] cap8)]) (kl := .string ((⟨#[116, 100, 103]⟩ : ByteArray)).data.toList) (d := .held (.agg #[.int .i64 1, .int .i64 0, .bool false, .bool true, .string (⟨#[116]⟩ : ByteArray), (.func (.func fn8) #[] cap8)])) (ps := []) (Go.WideMaps.keyOf_string_mk Tryz.underlying9 hl2) rfl
  replace HK := Lib.hid (HK.out.put (e_tdg, (.func (.func fn8) #[] cap8)) HC.out hm hg)
  clear hm hg HC hl1 hl2
  go_wp2_with fail
  go_at_call 97
  refine (mixed' w.heap.size 1 7 1 _ _ _ _ (by decide) (by decide) (by decide) HK.out.lt).mono ?_
  rintro e u9 ⟨v9, rfl, hc, hb⟩
  obtain ⟨fn9, cap9, rfl⟩ := hc.shape
  replace HK := Lib.hid (HK.out.step hb)
  have HC := Lib.hid hc
  clear hb hc
  try clear hl
  (try clear hrun8) <;> (try clear hrun7)
  have hl1 : 9 < maxLen := by unfold maxLen; omega
  have hl2 : (⟨#[118]⟩ : ByteArray).size ≤ maxLen := by show 1 ≤ maxLen; unfold maxLen; omega
  obtain ⟨w10, hrun9, hm, hg⟩ := HK.out.map.update law9 Tryz.underlying140 hl1 (key := .string (⟨#[118]⟩ : ByteArray)) (val := .agg #[.int .i64 1, .int .i64 1, .bool true, .bool false, .string (⟨#[118, 100, 103]⟩ : ByteArray), (.func (.func fn9) #[] cap9)]) (kl := .string ((⟨#[118]⟩ : ByteArray)).data.toList) (d := .held (.agg #[.int .i64 1, .int .i64 1, .bool true, .bool false, .string (⟨#[118, 100, 103]⟩ : ByteArray), (.func (.func fn9) #[] cap9)])) (ps := []) (Go.WideMaps.keyOf_string_mk Tryz.underlying9 hl2) rfl
  replace HK := Lib.hid (HK.out.put (e_v, (.func (.func fn9) #[] cap9)) HC.out hm hg)
  clear hm hg HC hl1 hl2
  go_wp2_with fail
  go_at_call 97
  refine (mixed' w.heap.size 7 1 7 _ _ _ _ (by decide) (by decide) (by decide) HK.out.lt).mono ?_
  rintro e u10 ⟨v10, rfl, hc, hb⟩
  obtain ⟨fn10, cap10, rfl⟩ := hc.shape
  replace HK := Lib.hid (HK.out.step hb)
  have HC := Lib.hid hc
  clear hb hc
  try clear hl
  (try clear hrun9) <;> (try clear hrun8)
  have hl1 : 10 < maxLen := by unfold maxLen; omega
  have hl2 : (⟨#[118, 100, 103]⟩ : ByteArray).size ≤ maxLen := by show 3 ≤ maxLen; unfold maxLen; omega
  obtain ⟨w11, hrun10, hm, hg⟩ := HK.out.map.update law9 Tryz.underlying140 hl1 (key := .string (⟨#[118, 100, 103]⟩ : ByteArray)) (val := .agg #[.int .i64 1, .int .i64 1, .bool true, .bool false, .string (⟨#[118]⟩ : ByteArray), (.func (.func fn10) #[] cap10)]) (kl := .string ((⟨#[118, 100, 103]⟩ : ByteArray)).data.toList) (d := .held (.agg #[.int .i64 1, .int .i64 1, .bool true, .bool false, .string (⟨#[118]⟩ : ByteArray), (.func (.func fn10) #[] cap10)])) (ps := []) (Go.WideMaps.keyOf_string_mk Tryz.underlying9 hl2) rfl
  replace HK := Lib.hid (HK.out.put (e_vdg, (.func (.func fn10) #[] cap10)) HC.out hm hg)
  clear hm hg HC hl1 hl2
  have hl := HK.out.lt
  replace HK := Lib.hid (HK.out.step (below1 _ (.cells #[.int .i64 1] 3)))
  go_wp2_with fail
  go_at_call 95
  refine (flip' w.heap.size 0 [1] _ _ _ _ _ _ (by decide) rfl (by simp) HK.out.lt (Nat.ne_of_gt hl) (by decide) (by decide) (ints_new _ [1] _ rfl (by decide))).mono ?_
  rintro e u11 ⟨v11, rfl, hc, hb⟩
  obtain ⟨fn11, cap11, rfl⟩ := hc.shape
  replace HK := Lib.hid (HK.out.step hb)
  have HC := Lib.hid hc
  clear hb hc
  try clear hl
  (try clear hrun10) <;> (try clear hrun9)
  have hl1 : 11 < maxLen := by unfold maxLen; omega
  have hl2 : (⟨#[119]⟩ : ByteArray).size ≤ maxLen := by show 1 ≤ maxLen; unfold maxLen; omega
  obtain ⟨w12, hrun11, hm, hg⟩ := HK.out.map.update law9 Tryz.underlying140 hl1 (key := .string (⟨#[119]⟩ : ByteArray)) (val := .agg #[.int .i64 1, .int .i64 0, .bool true, .bool true, .string (⟨#[119, 100, 103]⟩ : ByteArray), (.func (.func fn11) #[] cap11)]) (kl := .string ((⟨#[119]⟩ : ByteArray)).data.toList) (d := .held (.agg #[.int .i64 1, .int .i64 0, .bool true, .bool true, .string (⟨#[119, 100, 103]⟩ : ByteArray), (.func (.func fn11) #[] cap11)])) (ps := []) (Go.WideMaps.keyOf_string_mk Tryz.underlying9 hl2) rfl
  replace HK := Lib.hid (HK.out.put (e_w, (.func (.func fn11) #[] cap11)) HC.out hm hg)
  clear hm hg HC hl1 hl2
  have hl := HK.out.lt
  replace HK := Lib.hid (HK.out.step (below1 _ (.cells #[.int .i64 7] 3)))
  go_wp2_with fail
  go_at_call 95
  refine (flip' w.heap.size 0 [7] _ _ _ _ _ _ (by decide) rfl (by simp) HK.out.lt (Nat.ne_of_gt hl) (by decide) (by decide) (ints_new _ [7] _ rfl (by decide))).mono ?_
  rintro e u12 ⟨v12, rfl, hc, hb⟩
  obtain ⟨fn12, cap12, rfl⟩ := hc.shape
  replace HK := Lib.hid (HK.out.step hb)
  have HC := Lib.hid hc
  clear hb hc
  try clear hl
  (try clear hrun11) <;> (try clear hrun10)
  have hl1 : 12 < maxLen := by unfold maxLen; omega
  have hl2 : (⟨#[119, 100, 103]⟩ : ByteArray).size ≤ maxLen := by show 3 ≤ maxLen; unfold maxLen; omega
  obtain ⟨w13, hrun12, hm, hg⟩ := HK.out.map.update law9 Tryz.underlying140 hl1 (key := .string (⟨#[119, 100, 103]⟩ : ByteArray)) (val := .agg #[.int .i64 1, .int .i64 0, .bool true, .bool true, .string (⟨#[119]⟩ : ByteArray), (.func (.func fn12) #[] cap12)]) (kl := .string ((⟨#[119, 100, 103]⟩ : ByteArray)).data.toList) (d := .held (.agg #[.int .i64 1, .int .i64 0, .bool true, .bool true, .string (⟨#[119]⟩ : ByteArray), (.func (.func fn12) #[] cap12)])) (ps := []) (Go.WideMaps.keyOf_string_mk Tryz.underlying9 hl2) rfl
  replace HK := Lib.hid (HK.out.put (e_wdg, (.func (.func fn12) #[] cap12)) HC.out hm hg)
  clear hm hg HC hl1 hl2
  go_wp2_with fail
  go_at_call 98
  refine (swap' w.heap.size 1 3 0 _ _ _ _ (by decide) (by decide) (by decide) HK.out.lt).mono ?_
  rintro e u13 ⟨v13, rfl, hc, hb⟩
  obtain ⟨fn13, cap13, rfl⟩ := hc.shape
  replace HK := Lib.hid (HK.out.step hb)
  have HC := Lib.hid hc
  clear hb hc
  try clear hl
  (try clear hrun12) <;> (try clear hrun11)
  have hl1 : 13 < maxLen := by unfold maxLen; omega
  have hl2 : (⟨#[99, 120]⟩ : ByteArray).size ≤ maxLen := by show 2 ≤ maxLen; unfold maxLen; omega
  obtain ⟨w14, hrun13, hm, hg⟩ := HK.out.map.update law9 Tryz.underlying140 hl1 (key := .string (⟨#[99, 120]⟩ : ByteArray)) (val := .agg #[.int .i64 2, .int .i64 0, .bool true, .bool false, .string (⟨#[99, 120]⟩ : ByteArray), (.func (.func fn13) #[] cap13)]) (kl := .string ((⟨#[99, 120]⟩ : ByteArray)).data.toList) (d := .held (.agg #[.int .i64 2, .int .i64 0, .bool true, .bool false, .string (⟨#[99, 120]⟩ : ByteArray), (.func (.func fn13) #[] cap13)])) (ps := []) (Go.WideMaps.keyOf_string_mk Tryz.underlying9 hl2) rfl
  replace HK := Lib.hid (HK.out.put (e_cx, (.func (.func fn13) #[] cap13)) HC.out hm hg)
  clear hm hg HC hl1 hl2
  have HC := Lib.hid (cy_is w.heap.size w14)
  have hl1 : 14 < maxLen := by unfold maxLen; omega
  have hl2 : (⟨#[99, 121]⟩ : ByteArray).size ≤ maxLen := by show 2 ≤ maxLen; unfold maxLen; omega
  obtain ⟨w15, hrun14, hm, hg⟩ := HK.out.map.update law9 Tryz.underlying140 hl1 (key := .string (⟨#[99, 121]⟩ : ByteArray)) (val := .agg #[.int .i64 2, .int .i64 0, .bool true, .bool false, .string (⟨#[99, 121]⟩ : ByteArray), (.func (.func 99) #[] #[])]) (kl := .string ((⟨#[99, 121]⟩ : ByteArray)).data.toList) (d := .held (.agg #[.int .i64 2, .int .i64 0, .bool true, .bool false, .string (⟨#[99, 121]⟩ : ByteArray), (.func (.func 99) #[] #[])])) (ps := []) (Go.WideMaps.keyOf_string_mk Tryz.underlying9 hl2) rfl
  replace HK := Lib.hid (HK.out.put (e_cy, (.func (.func 99) #[] #[])) HC.out hm hg)
  clear hm hg HC hl1 hl2
  go_wp2_with fail
  go_at_call 96
  refine (last' w.heap.size 3 4 _ _ _ (by decide) (by decide) HK.out.lt).mono ?_
  rintro e u15 ⟨v15, rfl, hc, hb⟩
  obtain ⟨fn15, cap15, rfl⟩ := hc.shape
  replace HK := Lib.hid (HK.out.step hb)
  have HC := Lib.hid hc
  clear hb hc
  try clear hl
  (try clear hrun14) <;> (try clear hrun13)
  have hl1 : 15 < maxLen := by unfold maxLen; omega
  have hl2 : (⟨#[99, 122]⟩ : ByteArray).size ≤ maxLen := by show 2 ≤ maxLen; unfold maxLen; omega
  obtain ⟨w16, hrun15, hm, hg⟩ := HK.out.map.update law9 Tryz.underlying140 hl1 (key := .string (⟨#[99, 122]⟩ : ByteArray)) (val := .agg #[.int .i64 2, .int .i64 0, .bool true, .bool true, .string (⟨#[99, 122]⟩ : ByteArray), (.func (.func fn15) #[] cap15)]) (kl := .string ((⟨#[99, 122]⟩ : ByteArray)).data.toList) (d := .held (.agg #[.int .i64 2, .int .i64 0, .bool true, .bool true, .string (⟨#[99, 122]⟩ : ByteArray), (.func (.func fn15) #[] cap15)])) (ps := []) (Go.WideMaps.keyOf_string_mk Tryz.underlying9 hl2) rfl
  replace HK := Lib.hid (HK.out.put (e_cz, (.func (.func fn15) #[] cap15)) HC.out hm hg)
  clear hm hg HC hl1 hl2
  have HC := Lib.hid (ch_is w.heap.size w16)
  have hl1 : 16 < maxLen := by unfold maxLen; omega
  have hl2 : (⟨#[99, 104]⟩ : ByteArray).size ≤ maxLen := by show 2 ≤ maxLen; unfold maxLen; omega
  obtain ⟨w17, hrun16, hm, hg⟩ := HK.out.map.update law9 Tryz.underlying140 hl1 (key := .string (⟨#[99, 104]⟩ : ByteArray)) (val := .agg #[.int .i64 2, .int .i64 1, .bool false, .bool false, .string (⟨#[99, 104]⟩ : ByteArray), (.func (.func 100) #[] #[])]) (kl := .string ((⟨#[99, 104]⟩ : ByteArray)).data.toList) (d := .held (.agg #[.int .i64 2, .int .i64 1, .bool false, .bool false, .string (⟨#[99, 104]⟩ : ByteArray), (.func (.func 100) #[] #[])])) (ps := []) (Go.WideMaps.keyOf_string_mk Tryz.underlying9 hl2) rfl
  replace HK := Lib.hid (HK.out.put (e_ch, (.func (.func 100) #[] #[])) HC.out hm hg)
  clear hm hg HC hl1 hl2
  go_wp2_with fail
  go_at_call 96
  refine (last' w.heap.size 3 2 _ _ _ (by decide) (by decide) HK.out.lt).mono ?_
  rintro e u17 ⟨v17, rfl, hc, hb⟩
  obtain ⟨fn17, cap17, rfl⟩ := hc.shape
  replace HK := Lib.hid (HK.out.step hb)
  have HC := Lib.hid hc
  clear hb hc
  try clear hl
  (try clear hrun16) <;> (try clear hrun15)
  have hl1 : 17 < maxLen := by unfold maxLen; omega
  have hl2 : (⟨#[99, 115]⟩ : ByteArray).size ≤ maxLen := by show 2 ≤ maxLen; unfold maxLen; omega
  obtain ⟨w18, hrun17, hm, hg⟩ := HK.out.map.update law9 Tryz.underlying140 hl1 (key := .string (⟨#[99, 115]⟩ : ByteArray)) (val := .agg #[.int .i64 2, .int .i64 0, .bool false, .bool true, .string (⟨#[99, 115, 100, 103]⟩ : ByteArray), (.func (.func fn17) #[] cap17)]) (kl := .string ((⟨#[99, 115]⟩ : ByteArray)).data.toList) (d := .held (.agg #[.int .i64 2, .int .i64 0, .bool false, .bool true, .string (⟨#[99, 115, 100, 103]⟩ : ByteArray), (.func (.func fn17) #[] cap17)])) (ps := []) (Go.WideMaps.keyOf_string_mk Tryz.underlying9 hl2) rfl
  replace HK := Lib.hid (HK.out.put (e_cs, (.func (.func fn17) #[] cap17)) HC.out hm hg)
  clear hm hg HC hl1 hl2
  go_wp2_with fail
  go_at_call 96
  refine (last' w.heap.size 3 6 _ _ _ (by decide) (by decide) HK.out.lt).mono ?_
  rintro e u18 ⟨v18, rfl, hc, hb⟩
  obtain ⟨fn18, cap18, rfl⟩ := hc.shape
  replace HK := Lib.hid (HK.out.step hb)
  have HC := Lib.hid hc
  clear hb hc
  try clear hl
  (try clear hrun17) <;> (try clear hrun16)
  have hl1 : 18 < maxLen := by unfold maxLen; omega
  have hl2 : (⟨#[99, 115, 100, 103]⟩ : ByteArray).size ≤ maxLen := by show 4 ≤ maxLen; unfold maxLen; omega
  obtain ⟨w19, hrun18, hm, hg⟩ := HK.out.map.update law9 Tryz.underlying140 hl1 (key := .string (⟨#[99, 115, 100, 103]⟩ : ByteArray)) (val := .agg #[.int .i64 2, .int .i64 0, .bool false, .bool true, .string (⟨#[99, 115]⟩ : ByteArray), (.func (.func fn18) #[] cap18)]) (kl := .string ((⟨#[99, 115, 100, 103]⟩ : ByteArray)).data.toList) (d := .held (.agg #[.int .i64 2, .int .i64 0, .bool false, .bool true, .string (⟨#[99, 115]⟩ : ByteArray), (.func (.func fn18) #[] cap18)])) (ps := []) (Go.WideMaps.keyOf_string_mk Tryz.underlying9 hl2) rfl
  replace HK := Lib.hid (HK.out.put (e_csdg, (.func (.func fn18) #[] cap18)) HC.out hm hg)
  clear hm hg HC hl1 hl2
  go_wp2_with fail
  go_at_call 98
  refine (swap' w.heap.size 1 2 0 _ _ _ _ (by decide) (by decide) (by decide) HK.out.lt).mono ?_
  rintro e u19 ⟨v19, rfl, hc, hb⟩
  obtain ⟨fn19, cap19, rfl⟩ := hc.shape
  replace HK := Lib.hid (HK.out.step hb)
  have HC := Lib.hid hc
  clear hb hc
  try clear hl
  (try clear hrun18) <;> (try clear hrun17)
  have hl1 : 19 < maxLen := by unfold maxLen; omega
  have hl2 : (⟨#[115, 119, 97, 112]⟩ : ByteArray).size ≤ maxLen := by show 4 ≤ maxLen; unfold maxLen; omega
  obtain ⟨w20, hrun19, hm, hg⟩ := HK.out.map.update law9 Tryz.underlying140 hl1 (key := .string (⟨#[115, 119, 97, 112]⟩ : ByteArray)) (val := .agg #[.int .i64 2, .int .i64 0, .bool true, .bool false, .string (⟨#[115, 119, 97, 112]⟩ : ByteArray), (.func (.func fn19) #[] cap19)]) (kl := .string ((⟨#[115, 119, 97, 112]⟩ : ByteArray)).data.toList) (d := .held (.agg #[.int .i64 2, .int .i64 0, .bool true, .bool false, .string (⟨#[115, 119, 97, 112]⟩ : ByteArray), (.func (.func fn19) #[] cap19)])) (ps := []) (Go.WideMaps.keyOf_string_mk Tryz.underlying9 hl2) rfl
  replace HK := Lib.hid (HK.out.put (e_swap, (.func (.func fn19) #[] cap19)) HC.out hm hg)
  clear hm hg HC hl1 hl2
  go_wp2_with fail
  go_at_call 98
  refine (swap' w.heap.size 1 2 2 _ _ _ _ (by decide) (by decide) (by decide) HK.out.lt).mono ?_
  rintro e u20 ⟨v20, rfl, hc, hb⟩
  obtain ⟨fn20, cap20, rfl⟩ := hc.shape
  replace HK := Lib.hid (HK.out.step hb)
  have HC := Lib.hid hc
  clear hb hc
  try clear hl
  (try clear hrun19) <;> (try clear hrun18)
  have hl1 : 20 < maxLen := by unfold maxLen; omega
  have hl2 : (⟨#[105, 115, 119, 97, 112]⟩ : ByteArray).size ≤ maxLen := by show 5 ≤ maxLen; unfold maxLen; omega
  obtain ⟨w21, hrun20, hm, hg⟩ := HK.out.map.update law9 Tryz.underlying140 hl1 (key := .string (⟨#[105, 115, 119, 97, 112]⟩ : ByteArray)) (val := .agg #[.int .i64 2, .int .i64 0, .bool true, .bool false, .string (⟨#[105, 115, 119, 97, 112, 100, 103]⟩ : ByteArray), (.func (.func fn20) #[] cap20)]) (kl := .string ((⟨#[105, 115, 119, 97, 112]⟩ : ByteArray)).data.toList) (d := .held (.agg #[.int .i64 2, .int .i64 0, .bool true, .bool false, .string (⟨#[105, 115, 119, 97, 112, 100, 103]⟩ : ByteArray), (.func (.func fn20) #[] cap20)])) (ps := []) (Go.WideMaps.keyOf_string_mk Tryz.underlying9 hl2) rfl
  replace HK := Lib.hid (HK.out.put (e_iswap, (.func (.func fn20) #[] cap20)) HC.out hm hg)
  clear hm hg HC hl1 hl2
  go_wp2_with fail
  go_at_call 98
  refine (swap' w.heap.size 1 2 6 _ _ _ _ (by decide) (by decide) (by decide) HK.out.lt).mono ?_
  rintro e u21 ⟨v21, rfl, hc, hb⟩
  obtain ⟨fn21, cap21, rfl⟩ := hc.shape
  replace HK := Lib.hid (HK.out.step hb)
  have HC := Lib.hid hc
  clear hb hc
  try clear hl
  (try clear hrun20) <;> (try clear hrun19)
  have hl1 : 21 < maxLen := by unfold maxLen; omega
  have hl2 : (⟨#[105, 115, 119, 97, 112, 100, 103]⟩ : ByteArray).size ≤ maxLen := by show 7 ≤ maxLen; unfold maxLen; omega
  obtain ⟨w22, hrun21, hm, hg⟩ := HK.out.map.update law9 Tryz.underlying140 hl1 (key := .string (⟨#[105, 115, 119, 97, 112, 100, 103]⟩ : ByteArray)) (val := .agg #[.int .i64 2, .int .i64 0, .bool true, .bool false, .string (⟨#[105, 115, 119, 97, 112]⟩ : ByteArray), (.func (.func fn21) #[] cap21)]) (kl := .string ((⟨#[105, 115, 119, 97, 112, 100, 103]⟩ : ByteArray)).data.toList) (d := .held (.agg #[.int .i64 2, .int .i64 0, .bool true, .bool false, .string (⟨#[105, 115, 119, 97, 112]⟩ : ByteArray), (.func (.func fn21) #[] cap21)])) (ps := []) (Go.WideMaps.keyOf_string_mk Tryz.underlying9 hl2) rfl
  replace HK := Lib.hid (HK.out.put (e_iswapdg, (.func (.func fn21) #[] cap21)) HC.out hm hg)
  clear hm hg HC hl1 hl2
  go_wp2_with fail
  go_at_call 98
  refine (swap' w.heap.size 3 7 0 _ _ _ _ (by decide) (by decide) (by decide) HK.out.lt).mono ?_
  rintro e u22 ⟨v22, rfl, hc, hb⟩
  obtain ⟨fn22, cap22, rfl⟩ := hc.shape
  replace HK := Lib.hid (HK.out.step hb)
  have HC := Lib.hid hc
  clear hb hc
  try clear hl
  (try clear hrun21) <;> (try clear hrun20)
  have hl1 : 22 < maxLen := by unfold maxLen; omega
  have hl2 : (⟨#[99, 99, 120]⟩ : ByteArray).size ≤ maxLen := by show 3 ≤ maxLen; unfold maxLen; omega
  obtain ⟨w23, hrun22, hm, hg⟩ := HK.out.map.update law9 Tryz.underlying140 hl1 (key := .string (⟨#[99, 99, 120]⟩ : ByteArray)) (val := .agg #[.int .i64 3, .int .i64 0, .bool false, .bool false, .string (⟨#[99, 99, 120]⟩ : ByteArray), (.func (.func fn22) #[] cap22)]) (kl := .string ((⟨#[99, 99, 120]⟩ : ByteArray)).data.toList) (d := .held (.agg #[.int .i64 3, .int .i64 0, .bool false, .bool false, .string (⟨#[99, 99, 120]⟩ : ByteArray), (.func (.func fn22) #[] cap22)])) (ps := []) (Go.WideMaps.keyOf_string_mk Tryz.underlying9 hl2) rfl
  replace HK := Lib.hid (HK.out.put (e_ccx, (.func (.func fn22) #[] cap22)) HC.out hm hg)
  clear hm hg HC hl1 hl2
  go_wp2_with fail
  go_at_call 96
  refine (last' w.heap.size 7 4 _ _ _ (by decide) (by decide) HK.out.lt).mono ?_
  rintro e u23 ⟨v23, rfl, hc, hb⟩
  obtain ⟨fn23, cap23, rfl⟩ := hc.shape
  replace HK := Lib.hid (HK.out.step hb)
  have HC := Lib.hid hc
  clear hb hc
  try clear hl
  (try clear hrun22) <;> (try clear hrun21)
  have hl1 : 23 < maxLen := by unfold maxLen; omega
  have hl2 : (⟨#[99, 99, 122]⟩ : ByteArray).size ≤ maxLen := by show 3 ≤ maxLen; unfold maxLen; omega
  obtain ⟨w24, hrun23, hm, hg⟩ := HK.out.map.update law9 Tryz.underlying140 hl1 (key := .string (⟨#[99, 99, 122]⟩ : ByteArray)) (val := .agg #[.int .i64 3, .int .i64 0, .bool false, .bool true, .string (⟨#[99, 99, 122]⟩ : ByteArray), (.func (.func fn23) #[] cap23)]) (kl := .string ((⟨#[99, 99, 122]⟩ : ByteArray)).data.toList) (d := .held (.agg #[.int .i64 3, .int .i64 0, .bool false, .bool true, .string (⟨#[99, 99, 122]⟩ : ByteArray), (.func (.func fn23) #[] cap23)])) (ps := []) (Go.WideMaps.keyOf_string_mk Tryz.underlying9 hl2) rfl
  replace HK := Lib.hid (HK.out.put (e_ccz, (.func (.func fn23) #[] cap23)) HC.out hm hg)
  clear hm hg HC hl1 hl2
  go_wp2_with fail
  go_at_call 98
  refine (swap' w.heap.size 3 5 0 _ _ _ _ (by decide) (by decide) (by decide) HK.out.lt).mono ?_
  rintro e u24 ⟨v24, rfl, hc, hb⟩
  obtain ⟨fn24, cap24, rfl⟩ := hc.shape
  replace HK := Lib.hid (HK.out.step hb)
  have HC := Lib.hid hc
  clear hb hc
  try clear hl
  (try clear hrun23) <;> (try clear hrun22)
  have hl1 : 24 < maxLen := by unfold maxLen; omega
  have hl2 : (⟨#[99, 115, 119, 97, 112]⟩ : ByteArray).size ≤ maxLen := by show 5 ≤ maxLen; unfold maxLen; omega
  obtain ⟨w25, hrun24, hm, hg⟩ := HK.out.map.update law9 Tryz.underlying140 hl1 (key := .string (⟨#[99, 115, 119, 97, 112]⟩ : ByteArray)) (val := .agg #[.int .i64 3, .int .i64 0, .bool false, .bool false, .string (⟨#[99, 115, 119, 97, 112]⟩ : ByteArray), (.func (.func fn24) #[] cap24)]) (kl := .string ((⟨#[99, 115, 119, 97, 112]⟩ : ByteArray)).data.toList) (d := .held (.agg #[.int .i64 3, .int .i64 0, .bool false, .bool false, .string (⟨#[99, 115, 119, 97, 112]⟩ : ByteArray), (.func (.func fn24) #[] cap24)])) (ps := []) (Go.WideMaps.keyOf_string_mk Tryz.underlying9 hl2) rfl
  replace HK := Lib.hid (HK.out.put (e_cswap, (.func (.func fn24) #[] cap24)) HC.out hm hg)
  clear hm hg HC hl1 hl2
  go_wp2_with fail
  go_ret
  exact ⟨w.heap.size, _, rfl, HK.out, rfl⟩
end Go.Proofs.YtlobgpgdknjhlaaGreat.WH
