/- What a law is handed, opened: strings, rows of strings, structs, rows of structs and structs of rows, each as a plain value whose cells the walk's words read. -/
import Derived.SizedLaws
import Derived.ChangeSlices
import Derived.ChangeArms
import Derived.DataElems
import Derived.Deep.Strs
import Derived.Lib.SmallJoins
import Derived.Test.YtechbhjdgfcgoaaDoorWWords
import Derived.Test.YtechbhjdgfcgoaaDoorRows
namespace Go.Proofs.YtechbhjdgfcgoaaDoor.O
open Go Go.RowKit Go.ChangeShapes Go.WideShapes Go.Proofs.YtechbhjdgfcgoaaDoorW.PrintWords
set_option linter.unusedVariables false
set_option linter.unusedSimpArgs false
variable {H : Type} {enc : TypeId × Value → H} {P : Program} {w : World} {base : Nat} {spare : Nat → Bool} {held : Bool}
/-- No weight of a datum is beyond what memory reaches. -/
def Light (P : Program) (t : TypeId) (d : DataW H) : Prop := ∀ n ∈ d.weights P t, n ≤ 140737488351232
/-- What is read at type t is a value of the kind d with the bounds B; m counts its values and letters. -/
def Opens {α : Type} (enc : TypeId × Value → H) (P : Program) (w : World) (base : Nat) (spare : Nat → Bool) (held : Bool) (t : TypeId) (d : Kd α) (B : α → Prop) (m : α → Nat) : Prop :=
  ∀ (fuel : Nat) (cs : List Value) (x : DataW H × List MemPlace), DataW.trod enc P w base spare held fuel t cs = some x → Light P t x.1 → ∃ v : α, d.K w v cs ∧ B v ∧ m v ≤ Rows.uptoBulk x.1
theorem opens_int {t : TypeId} {k : IntKind} (ht : P.underlying t = some (.int k)) : Opens enc P w base spare held t (Kd.int k) (fun a => (Lit.int k a).wf = true) (fun _ => 1) := by
  intro fuel cs x h _
  obtain ⟨n, rfl, rfl, hw⟩ := DataW.trod_int ht h
  exact ⟨n, rfl, hw, Nat.le_of_eq (by simp [Rows.uptoBulk])⟩
theorem opens_bool {t : TypeId} (ht : P.underlying t = some .bool) : Opens enc P w base spare held t Kd.bool (fun _ => True) (fun _ => 1) := by
  intro fuel cs x h _
  obtain ⟨b, rfl, rfl⟩ := DataW.trod_bool ht h
  exact ⟨b, rfl, trivial, Nat.le_of_eq (by simp [Rows.uptoBulk])⟩
theorem opens_string {t : TypeId} (ht : P.underlying t = some .string) : Opens enc P w base spare held t Kd.string (fun s => s.size ≤ 140737488351232) (fun s => s.size + 1) := by
  intro fuel cs x h hl
  obtain ⟨s, rfl, rfl, hw⟩ := DataW.trod_string ht h
  have := hl s.data.toList.length (by simp [DataW.weights])
  refine ⟨s, rfl, this, ?_⟩
  show s.size + 1 ≤ Rows.uptoBulk (DataW.lit (H := H) (.string s.data.toList))
  rw [Rows.uptoBulk]
  exact Nat.le_refl _
/-- The fields' lists put together again. -/
theorem cut3 {cs : List Value} {a b c : Nat} (h : cs.length = a + (b + c)) : cs = (cs.drop 0).take a ++ ((cs.drop a).take b ++ (cs.drop (a + b)).take c) := by
  have h3 : (cs.drop (a + b)).take c = cs.drop (a + b) := List.take_of_length_le (by rw [List.length_drop]; omega)
  rw [List.drop_zero, h3, ← List.drop_drop, List.take_append_drop, List.take_append_drop]
theorem cut4 {cs : List Value} {a b c e : Nat} (h : cs.length = a + (b + (c + e))) : cs = (cs.drop 0).take a ++ ((cs.drop a).take b ++ ((cs.drop (a + b)).take c ++ (cs.drop (a + b + c)).take e)) := by
  have h4 : (cs.drop (a + b + c)).take e = cs.drop (a + b + c) := List.take_of_length_le (by rw [List.length_drop]; omega)
  rw [List.drop_zero, h4]
  have e1 : cs.drop (a + b + c) = (cs.drop (a + b)).drop c := by rw [List.drop_drop]
  have e2 : cs.drop (a + b) = (cs.drop a).drop b := by rw [List.drop_drop]
  rw [e1, List.take_append_drop, e2, List.take_append_drop, List.take_append_drop]
theorem light_agg {t : TypeId} {fs : Array Field} {l : List (DataW H)} (ht : P.underlying t = some (.struct fs)) (h : Light P t (.agg l)) : ∀ n ∈ DataW.weightsEach P (fs.toList.map (·.type)) l, n ≤ 140737488351232 := by
  intro n hn
  exact h n (by rw [DataW.weights, ht]; exact hn)
theorem opens_struct3 {α β γ δ : Type} {t : TypeId} {f0 f1 f2 : Field} {d0 : Kd α} {d1 : Kd β} {d2 : Kd γ} {B0 : α → Prop} {B1 : β → Prop} {B2 : γ → Prop} {m0 : α → Nat} {m1 : β → Nat} {m2 : γ → Nat} (f : δ → α × (β × γ)) (mk : α × (β × γ) → δ) (hmk : ∀ p, f (mk p) = p)
    (ht : P.underlying t = some (.struct #[f0, f1, f2])) (o0 : f0.offset = 0) (o1 : f1.offset = P.cellsOf f0.type) (o2 : f2.offset = P.cellsOf f0.type + P.cellsOf f1.type) (hc : P.cellsOf t = P.cellsOf f0.type + (P.cellsOf f1.type + P.cellsOf f2.type))
    (h0 : Opens enc P w base spare held f0.type d0 B0 m0) (h1 : Opens enc P w base spare held f1.type d1 B1 m1) (h2 : Opens enc P w base spare held f2.type d2 B2 m2) :
    Opens enc P w base spare held t (Kd.iso (Kd.pair d0 (Kd.pair d1 d2)) f) (fun v => B0 (f v).1 ∧ B1 (f v).2.1 ∧ B2 (f v).2.2) (fun v => m0 (f v).1 + (m1 (f v).2.1 + m2 (f v).2.2) + 1) := by
  intro fuel cs x h hl
  obtain ⟨y0, y1, y2, n, rfl, hlen, g0, g1, g2⟩ := Go.Deep.trod_struct3 ht h
  have hw := light_agg ht hl
  simp only [Array.toList, List.map_cons, List.map_nil, DataW.weightsEach, List.append_nil, List.mem_append] at hw
  rw [o0] at g0
  rw [o1] at g1
  rw [o2] at g2
  obtain ⟨v0, k0, b0, s0⟩ := h0 _ _ _ g0 (fun n hn => hw n (.inl hn))
  obtain ⟨v1, k1, b1, s1⟩ := h1 _ _ _ g1 (fun n hn => hw n (.inr (.inl hn)))
  obtain ⟨v2, k2, b2, s2⟩ := h2 _ _ _ g2 (fun n hn => hw n (.inr (.inr hn)))
  refine ⟨mk (v0, v1, v2), ?_, by simp only [hmk]; exact ⟨b0, b1, b2⟩, by simp only [hmk, Rows.uptoBulk, Rows.uptoBulkAll]; omega⟩
  show (Kd.pair d0 (Kd.pair d1 d2)).K w (f (mk (v0, v1, v2))) cs
  rw [hmk]
  exact ⟨_, _, cut3 (hlen.trans hc), k0, _, _, rfl, k1, k2⟩
theorem opens_struct4 {α β γ ε δ : Type} {t : TypeId} {f0 f1 f2 f3 : Field} {d0 : Kd α} {d1 : Kd β} {d2 : Kd γ} {d3 : Kd ε} {B0 : α → Prop} {B1 : β → Prop} {B2 : γ → Prop} {B3 : ε → Prop} {m0 : α → Nat} {m1 : β → Nat} {m2 : γ → Nat} {m3 : ε → Nat} (f : δ → α × (β × (γ × ε))) (mk : α × (β × (γ × ε)) → δ) (hmk : ∀ p, f (mk p) = p)
    (ht : P.underlying t = some (.struct #[f0, f1, f2, f3])) (o0 : f0.offset = 0) (o1 : f1.offset = P.cellsOf f0.type) (o2 : f2.offset = P.cellsOf f0.type + P.cellsOf f1.type) (o3 : f3.offset = P.cellsOf f0.type + P.cellsOf f1.type + P.cellsOf f2.type) (hc : P.cellsOf t = P.cellsOf f0.type + (P.cellsOf f1.type + (P.cellsOf f2.type + P.cellsOf f3.type)))
    (h0 : Opens enc P w base spare held f0.type d0 B0 m0) (h1 : Opens enc P w base spare held f1.type d1 B1 m1) (h2 : Opens enc P w base spare held f2.type d2 B2 m2) (h3 : Opens enc P w base spare held f3.type d3 B3 m3) :
    Opens enc P w base spare held t (Kd.iso (Kd.pair d0 (Kd.pair d1 (Kd.pair d2 d3))) f) (fun v => B0 (f v).1 ∧ B1 (f v).2.1 ∧ B2 (f v).2.2.1 ∧ B3 (f v).2.2.2) (fun v => m0 (f v).1 + (m1 (f v).2.1 + (m2 (f v).2.2.1 + m3 (f v).2.2.2)) + 1) := by
  intro fuel cs x h hl
  obtain ⟨y0, y1, y2, y3, n, rfl, hlen, g0, g1, g2, g3⟩ := Joins.trod_struct4 ht h
  have hw := light_agg ht hl
  simp only [Array.toList, List.map_cons, List.map_nil, DataW.weightsEach, List.append_nil, List.mem_append] at hw
  rw [o0] at g0
  rw [o1] at g1
  rw [o2] at g2
  rw [o3] at g3
  obtain ⟨v0, k0, b0, s0⟩ := h0 _ _ _ g0 (fun n hn => hw n (.inl hn))
  obtain ⟨v1, k1, b1, s1⟩ := h1 _ _ _ g1 (fun n hn => hw n (.inr (.inl hn)))
  obtain ⟨v2, k2, b2, s2⟩ := h2 _ _ _ g2 (fun n hn => hw n (.inr (.inr (.inl hn))))
  obtain ⟨v3, k3, b3, s3⟩ := h3 _ _ _ g3 (fun n hn => hw n (.inr (.inr (.inr hn))))
  refine ⟨mk (v0, v1, v2, v3), ?_, by simp only [hmk]; exact ⟨b0, b1, b2, b3⟩, by simp only [hmk, Rows.uptoBulk, Rows.uptoBulkAll]; omega⟩
  show (Kd.pair d0 (Kd.pair d1 (Kd.pair d2 d3))).K w (f (mk (v0, v1, v2, v3))) cs
  rw [hmk]
  exact ⟨_, _, cut4 (hlen.trans hc), k0, _, _, rfl, k1, _, _, rfl, k2, k3⟩
theorem cells_get {b : Nat} {a : Addr} {n : Nat} {cs : List Value} (h : w.cells? b a n = some cs) : cs.length = n ∧ ∀ i u, cs[i]? = some u → w.cell? (a.add i) = some u := by
  unfold World.cells? at h
  split at h
  · have hl := mapM_some_length h
    rw [List.length_range] at hl
    refine ⟨hl, fun i u hu => ?_⟩
    have hi : i < n := by rw [← hl]; exact (List.getElem?_eq_some_iff.1 hu).1
    have := mapM_some_get h i i (by rw [List.getElem?_range hi])
    rw [this, hu]
  · cases h
theorem weights_all {e : TypeId} : ∀ {l : List (DataW H)} {d : DataW H}, d ∈ l → ∀ n ∈ d.weights P e, n ∈ DataW.weightsAll P e l
  | [], d, hd, _, _ => by cases hd
  | y :: l, d, hd, n, hn => by
    rw [DataW.weightsAll, List.mem_append]
    rcases List.mem_cons.1 hd with rfl | hd
    · exact .inl hn
    · exact .inr (weights_all hd n hn)
/-- A list out of its members' being there. -/
theorem list_of {α : Type} {n : Nat} {Q : Nat → α → Prop} (h : ∀ i, i < n → ∃ v, Q i v) : ∃ l : List α, l.length = n ∧ ∀ i v, l[i]? = some v → Q i v := by
  induction n with
  | zero => exact ⟨[], rfl, fun i v hv => by simp at hv⟩
  | succ n ih =>
    obtain ⟨l, hl, hq⟩ := ih (fun i hi => h i (by omega))
    obtain ⟨v, hv⟩ := h n (by omega)
    refine ⟨l ++ [v], by simp [hl], fun i u hu => ?_⟩
    rcases Nat.lt_trichotomy i n with hi | hi | hi
    · rw [List.getElem?_append_left (by omega)] at hu
      exact hq i u hu
    · subst hi
      rw [List.getElem?_append_right (by omega), hl, Nat.sub_self] at hu
      have : v = u := by simpa using hu
      rw [← this]; exact hv
    · rw [List.getElem?_append_right (by omega), hl] at hu
      have := (List.getElem?_eq_some_iff.1 hu).1
      simp at this
      omega
theorem sum_le {α : Type} {m : α → Nat} : ∀ {l : List α} {xs : List (DataW H × List MemPlace)}, l.length = xs.length → (∀ (i : Nat) (v : α) (y : DataW H × List MemPlace), l[i]? = some v → xs[i]? = some y → m v ≤ Rows.uptoBulk y.1) → (l.map m).sum ≤ Rows.uptoBulkAll (xs.map (·.1))
  | [], [], _, _ => Nat.le_refl _
  | v :: l, y :: xs, hl, h => by
    have h0 := h 0 v y rfl rfl
    have h1 := sum_le (l := l) (xs := xs) (by simpa using hl) (fun i u z hu hz => h (i + 1) u z (by simpa using hu) (by simpa using hz))
    simp only [List.map_cons, List.sum_cons, Rows.uptoBulkAll]
    omega
  | [], _ :: _, hl, _ => by simp at hl
  | _ :: _, [], hl, _ => by simp at hl
theorem opens_slice {α : Type} {t e : TypeId} {d : Kd α} {B : α → Prop} {m : α → Nat} {Z : Nat} (ht : P.underlying t = some (.slice e)) (hs : P.cellsOf e = d.sz) (hZ : P.bytesOf e = Z) (he : Opens enc P w base spare held e d B m) :
    Opens enc P w base spare held t (Kd.slice e d) (fun l => l.length * Z ≤ 140737488351232 ∧ ∀ v ∈ l, B v) (fun l => (l.map m).sum + 1) := by
  intro fuel cs x h hl
  rcases DataW.trod_slice ht h with ⟨rfl, rfl⟩ | ⟨a, len, cap, elems, rest, n, _, rfl, rfl, hb, hlc, hm, hlen, hel, _, _⟩
  · exact ⟨[], ⟨none, 0, rfl, Nat.le_refl _, Kd.C_nil d w⟩, ⟨by simp, fun v hv => by cases hv⟩, by simp [Rows.uptoBulk]⟩
  · have hw : ∀ n ∈ DataW.weights P t (.slice (elems.map (·.1)) (rest.map (·.1))), n ≤ 140737488351232 := hl
    rw [DataW.weights, ht] at hw
    have each : ∀ i, i < len → ∃ v, ((∃ c, c.length = d.sz ∧ d.K w v c ∧ ∀ j u, c[j]? = some u → w.cell? (a.add (i * d.sz + j)) = some u) ∧ B v) ∧ ∀ y, elems[i]? = some y → m v ≤ Rows.uptoBulk y.1 := by
      intro i hi
      have hy : i < elems.length := by omega
      have hg := hel i hi
      rw [List.getElem?_eq_getElem hy, Option.bind_eq_some_iff] at hg
      obtain ⟨c, hc, htr⟩ := hg
      obtain ⟨v, hv, hB, hM⟩ := he _ _ _ htr (fun m hm' => hw m (List.mem_cons_of_mem _ (List.mem_append_left _ (weights_all (List.mem_map_of_mem (f := (·.1)) (List.getElem_mem hy)) m hm'))))
      obtain ⟨h1, h2⟩ := cells_get hc
      refine ⟨v, ⟨⟨c, by rw [h1, hs], hv, fun j u hu => ?_⟩, hB⟩, fun y hy2 => ?_⟩
      · have := h2 j u hu
        rw [hs] at this
        have ha : (a.add (i * d.sz)).add j = a.add (i * d.sz + j) := Addr.add_add a _ _
        rw [← ha]
        exact this
      · rw [List.getElem?_eq_getElem hy] at hy2
        rw [← Option.some.inj hy2]
        exact hM
    obtain ⟨l, hll, hq⟩ := list_of each
    refine ⟨l, ⟨some a, cap, by rw [hll], by omega, rfl, by unfold maxLen at hm; omega, fun _ => ⟨a, rfl, fun j p hp => (hq j p hp).1.1⟩⟩, ⟨?_, fun v hv => ?_⟩, ?_⟩
    · have := hw _ (List.mem_cons_self)
      rw [hZ, List.length_map, List.length_map, hlen] at this
      rw [hll]
      exact Nat.le_trans (Nat.mul_le_mul_right _ (Nat.le_add_right _ _)) this
    · obtain ⟨i, hi⟩ := List.getElem?_of_mem hv
      exact (hq i v hi).1.2
    · have := sum_le (m := m) (l := l) (xs := elems) (by omega) (fun i v y hv hy => (hq i v hv).2 y hy)
      simp only [Rows.uptoBulk]
      omega
/-- An argument's weights out of the whole's. -/
theorem light_of {ts : List TypeId} {ds : List (DataW H)} (hsz : (DataW.weightsEach P ts ds).all (· ≤ reachBytes) = true) {j : Nat} {t : TypeId} {d : DataW H} (ht : ts[j]? = some t) (hd : ds[j]? = some d) : Light P t d := by
  intro n hn
  have := List.all_eq_true.1 hsz n (DataW.weights_mem_each ht hd n hn)
  exact of_decide_eq_true this
/-- A row that came in as an argument. -/
theorem opened_slice {α : Type} {t e : TypeId} {d : Kd α} {B : α → Prop} {m : α → Nat} {Z : Nat} {r : Reach} {b0 : Nat} {v : Value} {y : DataW H} {p : List MemPlace} (ht : P.underlying t = some (.slice e)) (hs : P.cellsOf e = d.sz) (hZ : P.bytesOf e = Z) (he : Opens enc P w base spare held e d B m)
    (hv : Value.okWide P w r b0 t v) (h : DataW.Trod enc P w base spare held t v y p) (hl : Light P t y) :
    ∃ (A : Option Addr) (c : Nat) (l : List α), v = .slice A l.length c ∧ Kd.C d w A l.length l ∧ l.length ≤ c ∧ l.length * Z ≤ 140737488351232 ∧ (∀ u ∈ l, B u) ∧ (l.map m).sum + 1 ≤ Rows.uptoBulk y := by
  obtain ⟨a, len, cap, rfl⟩ := okWide_slice ht hv
  obtain ⟨fuel, hf⟩ := h
  obtain ⟨l, ⟨A, c, hcs, hlc, hC⟩, hB, hM⟩ := opens_slice ht hs hZ he fuel _ _ hf hl
  simp [Value.cells] at hcs
  obtain ⟨rfl, rfl, rfl⟩ := hcs
  exact ⟨_, _, l, rfl, hC, hlc, hB.1, hB.2, hM⟩
/-- A struct that came in as an argument. -/
theorem opened_struct {α : Type} {t : TypeId} {fs : Array Field} {d : Kd α} {B : α → Prop} {m : α → Nat} {r : Reach} {b0 : Nat} {v : Value} {y : DataW H} {p : List MemPlace} (ht : P.underlying t = some (.struct fs)) (he : Opens enc P w base spare held t d B m)
    (hv : Value.okWide P w r b0 t v) (h : DataW.Trod enc P w base spare held t v y p) (hl : Light P t y) :
    ∃ (u : α) (cs : Array Value), v = .agg cs ∧ d.K w u cs.toList ∧ B u ∧ m u ≤ Rows.uptoBulk y := by
  obtain ⟨cs, rfl, _⟩ := okWide_struct ht hv
  obtain ⟨fuel, hf⟩ := h
  obtain ⟨u, hu, hB, hM⟩ := he fuel _ _ hf hl
  exact ⟨u, cs, rfl, by simpa [Value.cells] using hu, hB, hM⟩
end Go.Proofs.YtechbhjdgfcgoaaDoor.O
